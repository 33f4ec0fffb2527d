/-
  ClaimAll: the walk. Conditions: the claims lie in memory, the numbers are ones of their kinds.
-/
import Derived.Test.YtmakghcoehkphaaGreatKr3
import Derived.Test.YtmakghcoehkphaaGreatKt2
import Derived.Test.YtmakghcoehkphaaGreatKu
import Derived.Test.YtmakghcoehkphaaGreatKj
import Derived.Test.YtmakghcoehkphaaGreatKx
import Derived.Test.YtmakghcoehkphaaGreatCc
namespace Go.Proofs.YtmakghcoehkphaaGreat
open Go.RowKit Go.BigFrame
set_option linter.unusedVariables false
set_option linter.unusedSimpArgs false

/-! ### the plain law -/
theorem bktE_of {d : Int} (h : 0 ≤ bktOf d) : bktE d = (bktOf d, 0) := by
  unfold bktOf bktE at *
  split at h
  · omega
  · rename_i h1
    rw [if_neg h1, if_neg h1]
theorem bktE_not {d : Int} (h : ¬ 0 ≤ bktOf d) : bktE d = (0, 3) := by
  unfold bktOf bktE at *
  split at h
  · rename_i h1
    rw [if_pos h1]
  · omega
def gsum (gs : List (List PCl)) (k : Nat) : Nat := ((gs.take k).map List.length).sum
theorem gsum_step {gs : List (List PCl)} {k : Nat} {g : List PCl} (h : gs[k]? = some g) : gsum gs (k + 1) = gsum gs k + g.length := by
  unfold gsum
  rw [List.take_add_one, h]
  simp
def cntB (l : List PCl) (i : Nat) : Nat := ((l.take i).filter fun c => decide (0 ≤ bkC c)).length
theorem cntB_step {l : List PCl} {i : Nat} {x : PCl} (h : l[i]? = some x) : cntB l (i + 1) = if 0 ≤ bkC x then cntB l i + 1 else cntB l i := by
  unfold cntB
  rw [List.take_add_one, h, List.filter_append, List.length_append]
  by_cases hx : 0 ≤ bkC x
  · rw [if_pos hx]; simp [hx]
  · rw [if_neg hx]; simp [hx]
theorem gsum_all (l : List PCl) : gsum (grpG bkC ltC l) (grpG bkC ltC l).length = cntB l l.length := by
  unfold gsum cntB
  rw [List.take_length, List.take_length]
  exact grp_count l
theorem gsum_le {gs : List (List PCl)} {k : Nat} (hk : k ≤ gs.length) : gsum gs k ≤ gsum gs gs.length := by
  unfold gsum
  rw [List.take_length]
  conv => rhs; rw [← List.take_append_drop k gs]
  rw [List.map_append, List.sum_append]
  omega
theorem cntB_le (l : List PCl) (i : Nat) : cntB l i ≤ cntB l l.length := by
  unfold cntB
  rw [List.take_length]
  conv => rhs; rw [← List.take_append_drop i l]
  rw [List.filter_append, List.length_append]
  omega
/-- What a group is. -/
theorem grp_is {l : List PCl} {k : Nat} {g : List PCl} (h : (grpG bkC ltC l)[k]? = some g) : ∃ b : Int, (rsB l)[k]? = some b ∧ 0 ≤ b ∧ b ≤ 1000000 ∧ (∀ c ∈ g, bkC c = b ∧ c ∈ l) ∧ g.length ≠ 0 ∧ lastAt (rsB l) k < b := by
  rw [grp_get] at h
  obtain ⟨b, hb, rfl⟩ := Option.map_eq_some_iff.1 h
  have hb' : (rsB l)[k]? = some b := hb
  have hm := rsB_mem (List.mem_of_getElem? hb')
  refine ⟨b, hb', hm.1.1, hm.1.2, fun c hc => ?_, ?_, ?_⟩
  · have := (ofG_mem l b c).1 hc
    exact ⟨this.2, this.1⟩
  · have h2 := hm.2
    rw [← fz_sort hm.1.1, (isort_perm _).length_eq]
    exact h2
  · match k, hb' with
    | 0, hb' => show (-1 : Int) < b; omega
    | k + 1, hb' =>
      obtain ⟨hk, e⟩ := List.getElem?_eq_some_iff.1 hb'
      have hlt := List.pairwise_iff_getElem.1 (rising_lt (l.map bkC)) k (k + 1) (by show k < (rsB l).length; omega) hk (by omega)
      show (rsB l).getD k (-1) < b
      rw [List.getD_eq_getElem?_getD, List.getElem?_eq_getElem (by omega)]
      rw [← e]
      exact hlt
theorem fee_enough {r : Int} {n : Nat} (hr : 0 ≤ r ∧ r ≤ 65535) (hn : 1 ≤ n ∧ n ≤ 32) : ∃ fee : Int, bidS r n = (fee, 0) ∧ sizeS n = (sizeN n, 0) ∧ 0 ≤ cmpR fee (sizeN n) (max r 1000) 1000 := by
  obtain ⟨s, hs⟩ : ∃ s, s = sizeN n := ⟨_, rfl⟩
  have hs2 : 113 ≤ s ∧ s ≤ 2000 := by rw [hs]; unfold sizeN; omega
  have hR : rateUp r = max r 1000 := by unfold rateUp; rw [if_pos hr.1]
  obtain ⟨R, hR2⟩ : ∃ R, R = max r 1000 := ⟨_, rfl⟩
  have hR3 : 1000 ≤ R ∧ R ≤ 65535 := by omega
  refine ⟨(R * s + 999) / 1000, ?_, ?_, ?_⟩
  · unfold bidS
    rw [if_pos (by omega), show ((n : Nat) : Int).toNat = n by omega, hR, ← hR2, ← hs]
    unfold feeE
    rw [if_pos (by omega)]
  · unfold sizeS
    rw [if_pos (by omega), show ((n : Nat) : Int).toNat = n by omega]
  · rw [← hs, ← hR2]
    have hm0 : 0 ≤ R * s := Int.mul_nonneg (by omega) (by omega)
    unfold cmpR
    split
    · unfold cmpN
      generalize R * s = m at *
      split
      · omega
      · split <;> decide
    · decide
set_option maxRecDepth 100000 in
set_option maxHeartbeats 8000000 in
theorem claimAll_walk (vl : Value) (l : List PCl) (z : PRw) (rt : Int) (w : World) (hv : SlAt rpCl w vl l) (hz : z.Ok) (hrt : 0 ≤ rt ∧ rt ≤ 65535) : Calls Tryz.prog 5 #[.agg (rwCells vl z), .int .u16 rt] w (BIs true w) := by
  have HV := Lib.hid hv
  have HOF := Lib.hid (fun y (h : SlAt rpCl y vl l) => cof_any vl l z 20 y hz h (by decide))
  obtain ⟨sp, hsp⟩ : ∃ s, s = ofQ z := ⟨_, rfl⟩
  obtain ⟨si, hsi⟩ : ∃ s, s = ofI z := ⟨_, rfl⟩
  have HSP := Lib.hid hsp
  have HSI := Lib.hid hsi
  obtain ⟨va, vc, rfl, -, -⟩ := hv.shape
  have hlen : (ofL z.odd (l.take 20)).length ≤ 20 := by rw [ofL_len, List.length_take]; omega
  obtain ⟨ll, hll⟩ : ∃ q, q = ofL z.odd (l.take 20) := ⟨_, rfl⟩
  rw [← hll] at hlen
  have HLL := Lib.hid hll
  have HLN := Lib.hid hlen
  have HGA := Lib.hid (gsum_all ll)
  have HGI := Lib.hid (fun k g (h : (grpG bkC ltC ll)[k]? = some g) => grp_is h)
  have HCL := Lib.hid (show cntB ll ll.length ≤ 20 by unfold cntB; have := List.length_filter_le (fun c => decide (0 ≤ bkC c)) (ll.take ll.length); rw [List.take_length] at this; rw [List.take_length]; omega)
  generalize l.length = n0 at *
  unfold rwCells at HOF ⊢
  clear hsp hsi hz hv hll hlen
  go_enter Tryz.func5, Tryz.ntmps5
  go_upto_region 1 with fail
  have hz := heap_alloc_new w (.cells #[.slice va n0 vc, .string z.pid, .int .u32 z.pidx, .int .i64 z.val, .int .u16 z.tag, .int .i64 z.fee, .bool z.odd] 28)
  have hal : Below w.heap.size w (w.alloc (.cells #[.slice va n0 vc, .string z.pid, .int .u32 z.pidx, .int .i64 z.val, .int .u16 z.tag, .int .i64 z.fee, .bool z.odd] 28)) := (Below.refl _ _).alloc (Nat.le_refl _) _
  obtain ⟨X, hX⟩ : ∃ q, q = w.heap.size := ⟨_, rfl⟩
  rw [← hX] at hz ⊢
  generalize w.alloc (.cells #[.slice va n0 vc, .string z.pid, .int .u32 z.pidx, .int .i64 z.val, .int .u16 z.tag, .int .i64 z.fee, .bool z.odd] 28) = w0 at *
  have HB0 := Lib.hid hal
  have z0 : w0.cell? ⟨X, 0, none⟩ = some (.slice va n0 vc) := cell_at hz
  have z1 : w0.cell? ⟨X, 1, none⟩ = some (.string z.pid) := cell_at hz
  have z2 : w0.cell? ⟨X, 2, none⟩ = some (.int .u32 z.pidx) := cell_at hz
  have z3 : w0.cell? ⟨X, 3, none⟩ = some (.int .i64 z.val) := cell_at hz
  have z4 : w0.cell? ⟨X, 4, none⟩ = some (.int .u16 z.tag) := cell_at hz
  have z5 : w0.cell? ⟨X, 5, none⟩ = some (.int .i64 z.fee) := cell_at hz
  have z6 : w0.cell? ⟨X, 6, none⟩ = some (.bool z.odd) := cell_at hz
  have HOF := Lib.hid (HOF.out w0 (HV.out.below hal))
  clear hz hal hX
  go_wp2_with fail
  refine HOF.out.mono ?_
  rintro e w2 ⟨v1, rfl, hown, hb⟩
  rw [← HLL.out] at hown
  rw [← HSP.out, ← HSI.out]
  have HB2 := Lib.hid (HB0.out.trans (hb.mono HB0.out.size))
  have HSL := Lib.hid hown.sl
  have HG1 := Lib.hid (fun v y (h : SlAt rpCl y v ll) => group_any v ll y h HLN.out)
  obtain ⟨a1, c1, hv1, -, -⟩ := ownsRow_shape hown.row
  subst hv1
  obtain ⟨n1, hn1⟩ : ∃ q, q = ll.length := ⟨_, rfl⟩
  have hn20 : n1 ≤ 20 := by rw [hn1]; exact HLN.out
  rw [← hn1] at HSL HGA HCL ⊢
  have HN1 := Lib.hid hn1
  clear hb hown HOF z0 z1 z2 z3 z4 z5 z6 HB0 hn1
  go_upto_region 2 with fail
  have hz := heap_alloc_new w2 (.cells #[.string sp, .int .u32 si] 25)
  have hal : Below w2.heap.size w2 (w2.alloc (.cells #[.string sp, .int .u32 si] 25)) := (Below.refl _ _).alloc (Nat.le_refl _) _
  obtain ⟨P, hP⟩ : ∃ q, q = w2.heap.size := ⟨_, rfl⟩
  rw [← hP] at hz ⊢
  generalize w2.alloc (.cells #[.string sp, .int .u32 si] 25) = w3 at *
  have HB3 := Lib.hid (HB2.out.trans (hal.mono HB2.out.size))
  have HSL := Lib.hid (HSL.out.below hal)
  clear hz hal hP HB2
  obtain ⟨gs, hgs⟩ : ∃ q, q = grpG bkC ltC ll := ⟨_, rfl⟩
  rw [← hgs] at HG1 HGA HGI
  clear hgs
  go_wp2_with fail
  refine (HG1.out _ w3 HSL.out).mono ?_
  rintro e w4 ⟨g1, rfl, hs1, hb⟩
  have HB4 := Lib.hid (HB3.out.trans (hb.mono HB3.out.size))
  have HSL := Lib.hid (HSL.out.below hb)
  have HS1 := Lib.hid hs1
  clear hs1 hb HB3 HG1
  obtain ⟨a3, c3, rfl, h3, hc3⟩ := HS1.out.shape
  rw [maxLen_eq] at hc3
  obtain ⟨q, hq⟩ : ∃ q, q = gs.length := ⟨_, rfl⟩
  have hq63 : q ≤ 9223372036854775807 := by omega
  have HGL := Lib.hid (show ∀ k, k ≤ q → gsum gs k ≤ 20 from fun k hk => Nat.le_trans (gsum_le (by rw [← hq]; exact hk)) (by rw [HGA.out]; exact HCL.out))
  rw [← hq] at HS1 HGA ⊢
  have HQ := Lib.hid hq
  clear hq h3 hc3
  go_wp2_with fail
  go_loopg [7, 8, 33] q (fun g nv la i wr => ∃ k : Nat, g = q - k ∧ k ≤ q ∧ i = .int .i64 k ∧ nv = .int .i64 (gsum gs k) ∧ la = .int .i64 (lastAt (rsB ll) k) ∧ Below w4.heap.size w4 wr)
  case atStart => exact ⟨0, rfl, by omega, rfl, rfl, rfl, Below.refl _ _⟩
  case round =>
    rename World => wb
    obtain ⟨k, hgk, hk, rfl, rfl, rfl, hb⟩ := hrel
    have HGK := Lib.hid hgk
    have HBB := Lib.hid hb
    obtain ⟨la, hla⟩ : ∃ q, q = lastAt (rsB ll) k := ⟨_, rfl⟩
    rw [← hla]
    have HLA := Lib.hid hla
    clear hgk hb hla
    by_cases hlt3 : k < q
    · obtain ⟨b, o, g, ga, gc, rfl, hg0, q0, hsg⟩ := (HS1.out.below HBB.out).grp hlt3
      obtain ⟨bb, hb1, hb2, hb3, hb4, hb5, hb6⟩ := HGI.out k g hg0
      rw [← HLA.out] at hb6
      have HGS := Lib.hid (gsum_step hg0)
      have HLS := Lib.hid (show lastAt (rsB ll) (k + 1) = bb by
        show (rsB ll).getD k (-1) = bb
        rw [List.getD_eq_getElem?_getD, hb1]; rfl)
      have HMEM := Lib.hid hb4
      obtain ⟨m, hm⟩ : ∃ q, q = g.length := ⟨_, rfl⟩
      rw [← hm] at q0 hsg hb5
      have HM := Lib.hid hm
      have hgl := HGL.out (k + 1) (by omega)
      rw [HGS.out, ← hm] at hgl
      obtain ⟨sk, hsk⟩ : ∃ q, q = gsum gs k := ⟨_, rfl⟩
      rw [← hsk] at hgl ⊢
      have HSK := Lib.hid hsk
      have HSG := Lib.hid hsg
      obtain ⟨b0, o0, x, rfl, hx, -, hcl⟩ := hsg.cl (i := 0) (by omega)
      have hxm := HMEM.out x (List.mem_of_getElem? hx)
      have HE := Lib.hid (show bktE x.dead = (bb, 0) by
        have h1 : bktOf x.dead = bb := hxm.1
        rw [bktE_of (by rw [h1]; exact hb2), h1])
      have HBQ := Lib.hid (bucket_any x.dead wb)
      rw [HE.out] at HBQ
      dsimp only at HBQ
      have d7 := hcl.c7
      rw [show o0 + 0 * 8 + 7 = o0 + 7 by omega] at d7
      have hm0 : ((m : Int) == 0) = false := by rw [beq_eq_false_iff_ne]; omega
      have hm1 : 0 < m := by omega
      have hle : decide (bb ≤ la) = false := decide_eq_false (by omega)
      clear hg0 hb1 hb4 hm hsk hx hxm hcl hsg
      go_wp2_with fail
      refine HBQ.out.mono ?_
      rintro e w' ⟨rfl, rfl⟩
      clear HBQ d7 q0
      go_wp2_with fail
      go_loopg [7, 58] m (fun g' nv i wr => ∃ j : Nat, g' = m - j ∧ j ≤ m ∧ i = .int .i64 j ∧ nv = .int .i64 ((sk + j : Nat) : Int) ∧ Below wb.heap.size wb wr)
      case atStart => exact ⟨0, rfl, by omega, rfl, rfl, Below.refl _ _⟩
      case round =>
        rename World => wc
        obtain ⟨j, hgj, hj, rfl, rfl, hbc⟩ := hrel
        have HGJ := Lib.hid hgj
        have HBC := Lib.hid hbc
        clear hgj hbc
        by_cases hjm : j < m
        · obtain ⟨b', o', y, hbo, hy, -, hcl⟩ := (HSG.out.below HBC.out).cl hjm
          obtain ⟨rfl, rfl⟩ : b0 = b' ∧ o0 = o' := by simpa using hbo
          obtain ⟨d0, d1, d2, d3, d4, d5, d6, d7⟩ := hcl
          have hym := HMEM.out y (List.mem_of_getElem? hy)
          have HE2 := Lib.hid (show bktE y.dead = (bb, 0) by
            have h1 : bktOf y.dead = bb := hym.1
            rw [bktE_of (by rw [h1]; exact hb2), h1])
          have HCN := Lib.hid (fun v u (h : SlAt rpCl u v ll) => containsC_any v ll y hym.2 u h)
          unfold clV at HCN
          clear hbo hy hym
          go_upto_region 15 with fail
          have hz := heap_alloc_new wc (.cells #[.string y.id, .int .u32 y.idx, .int .i64 y.val, .int .i64 y.br, .int .u16 y.lock.tag, .int .u16 y.lock.delay, .int .u32 y.lock.height, .int .i64 y.dead] 34)
          have hal : Below wc.heap.size wc (wc.alloc (.cells #[.string y.id, .int .u32 y.idx, .int .i64 y.val, .int .i64 y.br, .int .u16 y.lock.tag, .int .u16 y.lock.delay, .int .u32 y.lock.height, .int .i64 y.dead] 34)) := (Below.refl _ _).alloc (Nat.le_refl _) _
          obtain ⟨C, hC⟩ : ∃ q, q = wc.heap.size := ⟨_, rfl⟩
          rw [← hC] at hz ⊢
          generalize wc.alloc (.cells #[.string y.id, .int .u32 y.idx, .int .i64 y.val, .int .i64 y.br, .int .u16 y.lock.tag, .int .u16 y.lock.delay, .int .u32 y.lock.height, .int .i64 y.dead] 34) = wd at *
          have HBD := Lib.hid (HBC.out.trans (hal.mono HBC.out.size))
          have HSD := Lib.hid ((HSL.out.below HBB.out).below HBD.out)
          have e0 : wd.cell? ⟨C, 0, none⟩ = some (.string y.id) := cell_at hz
          have e1 : wd.cell? ⟨C, 1, none⟩ = some (.int .u32 y.idx) := cell_at hz
          have e2 : wd.cell? ⟨C, 2, none⟩ = some (.int .i64 y.val) := cell_at hz
          have e3 : wd.cell? ⟨C, 3, none⟩ = some (.int .i64 y.br) := cell_at hz
          have e4 : wd.cell? ⟨C, 4, none⟩ = some (.int .u16 y.lock.tag) := cell_at hz
          have e5 : wd.cell? ⟨C, 5, none⟩ = some (.int .u16 y.lock.delay) := cell_at hz
          have e6 : wd.cell? ⟨C, 6, none⟩ = some (.int .u32 y.lock.height) := cell_at hz
          have e7 : wd.cell? ⟨C, 7, none⟩ = some (.int .i64 y.dead) := cell_at hz
          have HBQ := Lib.hid (bucket_any y.dead wd)
          rw [HE2.out] at HBQ
          dsimp only at HBQ
          clear hz hal hC d0 d1 d2 d3 d4 d5 d6 d7
          go_wp2_with fail
          refine HBQ.out.mono ?_
          rintro e w' ⟨rfl, rfl⟩
          clear HBQ
          go_wp2_with fail
          refine (HCN.out _ wd HSD.out).mono ?_
          rintro e we ⟨rfl, hb⟩
          have HBE := Lib.hid (HBD.out.trans (hb.mono HBD.out.size))
          clear hb e0 e1 e2 e3 e4 e5 e6 e7 HCN
          go_wp2_with fail
          go_roundg (m - (j + 1))
          case measure => have := HGJ.out; omega
          case rel => exact ⟨j + 1, rfl, by omega, by go_num, by go_num, HBE.out⟩
        · obtain rfl : m = j := by omega
          have HF := Lib.hid (show gsum gs (k + 1) = sk + m by rw [HGS.out, HSK.out, HM.out])
          go_wp2_with fail
          go_roundg (q - (k + 1))
          case measure => have := HGK.out; omega
          case rel => exact ⟨k + 1, rfl, by omega, by go_num, by rw [HF.out], by rw [HLS.out], HBB.out.trans (HBC.out.mono HBB.out.size)⟩
    · obtain rfl : q = k := by omega
      have HBW := Lib.hid (HB4.out.trans (HBB.out.mono HB4.out.size))
      have HSL := Lib.hid (HSL.out.below HBB.out)
      rw [HGA.out]
      obtain ⟨T, hT⟩ : ∃ T, T = cntB ll n1 := ⟨_, rfl⟩
      have hT20 : T ≤ 20 := by rw [hT]; exact HCL.out
      have HCT := Lib.hid (show ∀ i, cntB ll i ≤ T from fun i => by rw [hT, HN1.out]; exact cntB_le ll i)
      rw [← hT]
      have HT := Lib.hid hT
      clear hT
      go_wp2_with fail
      go_loopg [7, 87] n1 (fun g nv i wr => ∃ j : Nat, g = n1 - j ∧ j ≤ n1 ∧ i = .int .i64 j ∧ nv = .int .i64 ((T : Int) - (cntB ll j : Nat)) ∧ Below wb.heap.size wb wr)
      case atStart => exact ⟨0, rfl, by omega, rfl, by simp [cntB], Below.refl _ _⟩
      case round =>
        rename World => wc
        obtain ⟨j, hgj, hj, rfl, rfl, hbc⟩ := hrel
        have HGJ := Lib.hid hgj
        have HBC := Lib.hid hbc
        have hct := HCT.out j
        obtain ⟨cj, hcj⟩ : ∃ q, q = cntB ll j := ⟨_, rfl⟩
        rw [← hcj] at hct ⊢
        have HCJ := Lib.hid hcj
        clear hgj hbc hcj
        by_cases hjm : j < n1
        · obtain ⟨b', o', y, rfl, hy, -, hcl⟩ := (HSL.out.below HBC.out).cl hjm
          obtain ⟨d0, d1, d2, d3, d4, d5, d6, d7⟩ := hcl
          have HST := Lib.hid (cntB_step hy)
          have hct2 := HCT.out (j + 1)
          clear hy
          go_upto_region 24 with fail
          have hz := heap_alloc_new wc (.cells #[.string y.id, .int .u32 y.idx, .int .i64 y.val, .int .i64 y.br, .int .u16 y.lock.tag, .int .u16 y.lock.delay, .int .u32 y.lock.height, .int .i64 y.dead] 34)
          have hal : Below wc.heap.size wc (wc.alloc (.cells #[.string y.id, .int .u32 y.idx, .int .i64 y.val, .int .i64 y.br, .int .u16 y.lock.tag, .int .u16 y.lock.delay, .int .u32 y.lock.height, .int .i64 y.dead] 34)) := (Below.refl _ _).alloc (Nat.le_refl _) _
          obtain ⟨C, hC⟩ : ∃ q, q = wc.heap.size := ⟨_, rfl⟩
          rw [← hC] at hz ⊢
          generalize wc.alloc (.cells #[.string y.id, .int .u32 y.idx, .int .i64 y.val, .int .i64 y.br, .int .u16 y.lock.tag, .int .u16 y.lock.delay, .int .u32 y.lock.height, .int .i64 y.dead] 34) = wd at *
          have HBD := Lib.hid (HBC.out.trans (hal.mono HBC.out.size))
          have e7 : wd.cell? ⟨C, 7, none⟩ = some (.int .i64 y.dead) := cell_at hz
          have HBQ := Lib.hid (bucket_any y.dead wd)
          clear hz hal hC d0 d1 d2 d3 d4 d5 d6 d7
          by_cases hbk : 0 ≤ bkC y
          · have hs : cntB ll (j + 1) = cj + 1 := by rw [HST.out, if_pos hbk, HCJ.out]
            rw [hs] at hct2
            have HS := Lib.hid hs
            rw [bktE_of (show 0 ≤ bktOf y.dead from hbk)] at HBQ
            dsimp only at HBQ
            generalize bktOf y.dead = bd at *
            clear hs hbk
            go_wp2_with fail
            refine HBQ.out.mono ?_
            rintro e w' ⟨rfl, rfl⟩
            go_wp2_with fail
            go_roundg (n1 - (j + 1))
            case measure => have := HGJ.out; omega
            case rel => exact ⟨j + 1, rfl, by omega, by go_num, by rw [HS.out]; go_num, HBD.out⟩
          · have hs : cntB ll (j + 1) = cj := by rw [HST.out, if_neg hbk, HCJ.out]
            have HS := Lib.hid hs
            rw [bktE_not (show ¬ 0 ≤ bktOf y.dead from hbk)] at HBQ
            dsimp only at HBQ
            clear hs hbk
            go_wp2_with fail
            refine HBQ.out.mono ?_
            rintro e w' ⟨rfl, rfl⟩
            go_wp2_with fail
            go_roundg (n1 - (j + 1))
            case measure => have := HGJ.out; omega
            case rel => exact ⟨j + 1, rfl, by omega, by go_num, by rw [HS.out], HBD.out⟩
        · obtain rfl : n1 = j := by omega
          have hcT : cj = T := by rw [HCJ.out, HT.out]
          subst hcT
          have HBX := Lib.hid (HBW.out.trans (HBC.out.mono HBW.out.size))
          have hsub : (cj : Int) - (cj : Int) = 0 := by omega
          by_cases hn0 : n1 = 0
          · subst hn0
            go_wp2_with fail
            refine (wakes25_any wc).mono ?_
            rintro e w6 ⟨rfl, hb⟩
            have HB6 := Lib.hid (HBX.out.trans (hb.mono HBX.out.size))
            clear hb
            go_wp2_with fail
            go_ret
            exact ⟨rfl, HB6.out⟩
          · obtain ⟨fee, e1, e2, h1⟩ := fee_enough hrt (n := n1) (by omega)
            have HQ1 := Lib.hid (fun y => kbid_any rt n1 y)
            have HQ2 := Lib.hid (fun y => ksize_any n1 y)
            rw [e1] at HQ1
            rw [e2] at HQ2
            dsimp only at HQ1 HQ2
            have hcv : IntKind.i64.wrap rt = rt := by rw [IntKind.wrap_i64]; omega
            have hnn : ((n1 : Int) == 0) = false := by rw [beq_eq_false_iff_ne]; omega
            generalize sizeN n1 = sz at *
            obtain ⟨R, hR⟩ : ∃ R, R = max rt 1000 := ⟨_, rfl⟩
            rw [← hR] at h1
            have HR := Lib.hid hR
            have hd1 : decide (0 ≤ cmpR fee sz R 1000) = true := decide_eq_true h1
            clear e1 e2 h1 hR
            go_wp2_with fail
            refine (HQ1.out wc).mono ?_
            rintro e w6 ⟨rfl, hb⟩
            have HB6 := Lib.hid (HBX.out.trans (hb.mono HBX.out.size))
            clear hb
            go_wp2_with fail
            refine (HQ2.out w6).mono ?_
            rintro e w7 ⟨rfl, hb⟩
            have HB7 := Lib.hid (HB6.out.trans (hb.mono HB6.out.size))
            clear hb
            go_wp2_with fail
            refine (wakes25_any w7).mono ?_
            rintro e w8 ⟨rfl, hb⟩
            have HB8 := Lib.hid (HB7.out.trans (hb.mono HB7.out.size))
            clear hb
            go_wp2_with fail
            rw [← HR.out]
            refine (compare_any fee sz R 1000 w8).mono ?_
            rintro e w9 ⟨rfl, hb⟩
            have HB9 := Lib.hid (HB8.out.trans (hb.mono HB8.out.size))
            clear hb
            go_wp2_with fail
            go_ret
            exact ⟨rfl, HB9.out⟩
theorem claimAll_at (v : Value) (q : Value × List PCl × PRw) (d : Int) (w : World) (h : RawAt w v q) (hd : (Lit.int .u16 d).wf = true) : Calls Tryz.prog 5 #[v, .int .u16 d] w (BIs true w) := by
  obtain ⟨rfl, h1, h2⟩ := h
  exact claimAll_walk q.1 q.2.1 q.2.2 d w h1 h2 (wf_u16 hd)
end Go.Proofs.YtmakghcoehkphaaGreat
