/-
  WireCuts: the walk. Conditions: none.
-/
import Derived.Test.YtmcknjldimnaoaaRl
import Derived.Test.YtmcknjldimnaoaaFit
namespace Go.Proofs.Ytmcknjldimnaoaa
open Go.RowKit Go.BigFrame
set_option linter.unusedVariables false
set_option linter.unusedSimpArgs false

theorem fit_len {t : PTx} (h : Fitted t) : t.outs.length ≤ 1000 := Nat.le_trans h.few.2 (by omega)
theorem enc_pos (t : PTx) (b : Bool) : 4 ≤ (encL t b).length := by
  unfold encL
  simp only [List.length_append, leB_length]
  omega
theorem toList_nil {s : ByteArray} (h : s.size ≠ 0) : (s.toList = []) = False ∧ s.toList.isEmpty = false := by
  rw [ByteArray.toList_eq]
  have h2 : s.data.toList ≠ [] := fun e => h (by rw [← data_len, e]; rfl)
  exact ⟨by simp only [eq_iff_iff, iff_false]; exact h2, by rw [List.isEmpty_eq_false_iff]; exact h2⟩
set_option maxRecDepth 100000 in
set_option maxHeartbeats 4000000 in
theorem wireCuts_walk (v : Value) (t0 : PTx) (cut : Int) (more : ByteArray) (w : World) (hv : TxAt w v t0) (hcut : (Lit.int .u16 cut).wf = true) (hmore : more.size ≤ 9223372036854775807) :
    Calls Try.prog 8 #[v, .int .u16 cut, .string more] w (BIs true w) := by
  obtain ⟨hcu0, hcu1⟩ := wf_u16 hcut
  have hv' := hv
  obtain ⟨va, vo, rfl, hia, hob, -, -⟩ := hv
  obtain ⟨a, c, rfl, -, -⟩ := hia.shape
  obtain ⟨a', c', rfl, -, -⟩ := hob.shape
  obtain ⟨l1, hl1⟩ : ∃ n, n = t0.ins.length := ⟨_, rfl⟩
  obtain ⟨l2, hl2⟩ : ∃ n, n = t0.outs.length := ⟨_, rfl⟩
  rw [← hl1, ← hl2] at hv' ⊢
  have HV := Lib.hid hv'
  clear hia hob hl1 hl2 hv' hcut
  go_enter Try.func8, Try.ntmps8
  go_upto_region 1 with fail
  have hz := heap_alloc_new w (.cells #[.int .u32 t0.ver, .slice a l1 c, .slice a' l2 c', .int .u32 t0.lock] 26)
  have hal : Below w.heap.size w (w.alloc (.cells #[.int .u32 t0.ver, .slice a l1 c, .slice a' l2 c', .int .u32 t0.lock] 26)) := (Below.refl _ _).alloc (Nat.le_refl _) _
  obtain ⟨X, hX⟩ : ∃ q, q = w.heap.size := ⟨_, rfl⟩
  rw [← hX] at hz ⊢
  generalize w.alloc (.cells #[.int .u32 t0.ver, .slice a l1 c, .slice a' l2 c', .int .u32 t0.lock] 26) = w0 at *
  have p0 : w0.cell? ⟨X, 0, none⟩ = some (.int .u32 t0.ver) := cell_at hz
  have p1 : w0.cell? ⟨X, 1, none⟩ = some (.slice a l1 c) := cell_at hz
  have p2 : w0.cell? ⟨X, 2, none⟩ = some (.slice a' l2 c') := cell_at hz
  have p3 : w0.cell? ⟨X, 3, none⟩ = some (.int .u32 t0.lock) := cell_at hz
  have HB := Lib.hid hal
  have HV0 := Lib.hid (HV.out.below hal)
  clear hz hal hX HV
  go_wp2_with fail
  refine (fit_any _ t0 w0 HV0.out).mono ?_
  rintro en w1 ⟨vu, u, rfl, hown, hfit, hb⟩
  have htx := hown.tx
  obtain ⟨va, vo, rfl, ha, ho, -, -⟩ := id htx
  obtain ⟨a1, c1, rfl, -, -⟩ := ha.shape
  obtain ⟨a2, c2, rfl, -, -⟩ := ho.shape
  have HB := Lib.hid (HB.out.trans (hb.mono HB.out.size))
  have HE := Lib.hid (wenc_any _ u w1 htx (fit_len hfit))
  have hnum := tx_nums htx
  obtain ⟨s, hs⟩ : ∃ s, s = encE u (witOf u) := ⟨_, rfl⟩
  rw [← hs] at HE
  have HNU := Lib.hid hnum
  have HS := Lib.hid hs
  clear hown hfit ha ho hb p0 p1 p2 p3 HV0 htx hnum hs
  by_cases hc : checkOf u = 0
  rotate_left
  · obtain ⟨ck, hck⟩ : ∃ ck, ck = checkOf u := ⟨_, rfl⟩
    rw [← hck] at HE hc
    have hcn : (ck != 0) = true := by simpa using hc
    clear hck hc
    go_wp2_with fail
    refine HE.out.mono ?_
    rintro e w2 ⟨rfl, hb⟩
    have HB := Lib.hid (HB.out.trans (hb.mono HB.out.size))
    clear hb HE
    go_wp2_with fail
    refine (wakes6_any w2).mono ?_
    rintro e w4 ⟨rfl, hb⟩
    have HB := Lib.hid (HB.out.trans (hb.mono HB.out.size))
    clear hb
    go_wp2_with fail
    go_ret
    exact ⟨rfl, HB.out⟩
  have hsb : s = bL (encL u (witOf u)) := HS.out.trans (if_pos hc)
  have hok := okP_of hc HNU.out
  rw [hc] at HE
  by_cases hm0 : more.size = 0
  · have hme : more = ⟨#[]⟩ := by
      have : more.data.toList.length = 0 := by rw [data_len]; exact hm0
      have h2 : more = ByteArray.empty := by simpa using this
      exact h2
    subst hme
    clear hsb hok hc hm0
    go_wp2_with fail
    refine HE.out.mono ?_
    rintro e w2 ⟨rfl, hb⟩
    have HB := Lib.hid (HB.out.trans (hb.mono HB.out.size))
    clear hb HE
    go_wp2_with fail
    refine (wakes6_any w2).mono ?_
    rintro e w4 ⟨rfl, hb⟩
    have HB := Lib.hid (HB.out.trans (hb.mono HB.out.size))
    clear hb
    go_wp2_with fail
    go_ret
    exact ⟨rfl, HB.out⟩
  have hsl : s.size = (encL u (witOf u)).length := by rw [hsb, bL_size]
  have hsp : 4 ≤ s.size := by rw [hsl]; exact enc_pos u _
  have hsz : s.size ≤ 200000 := by rw [hsl]; exact encL_le (enc_of (whole_of hc)) _
  obtain ⟨k, hk⟩ : ∃ k : Nat, cut % (s.size : Int) = (k : Int) := ⟨(cut % (s.size : Int)).toNat, by have := Int.emod_nonneg cut (show (s.size : Int) ≠ 0 by omega); omega⟩
  have hkl : k < s.size := by have := Int.emod_lt_of_pos cut (show (0 : Int) < s.size by omega); omega
  obtain ⟨s1, hs1⟩ : ∃ x, x = s.extract 0 k := ⟨_, rfl⟩
  have hs1l : s1.data.toList = (encL u (witOf u)).take k := by rw [hs1, hsb]; simp [bL]
  have hs1z : s1.size = k := by rw [hs1, ByteArray.size_extract]; omega
  obtain ⟨t1, n1, f1, hd1⟩ : ∃ t n c, decZ s1.data.toList = (t, n, c) := ⟨_, _, _, rfl⟩
  have hf1 : f1 = 5 := by
    have h := dec_cut hok (c := k) (by rw [← hsl]; exact hkl)
    rw [← hs1l, hd1] at h
    exact h
  have hn1 : n1 ≤ k := by
    have h := (dec_bound s1.data.toList).1
    rw [hd1, data_len, hs1z] at h
    exact h
  subst hf1
  obtain ⟨m, hm⟩ : ∃ m, m = min more.size 50 := ⟨_, rfl⟩
  have hmn : min (more.size : Int) 50 = (m : Int) := by omega
  have hmm0 : (0 : Int) ≤ (m : Int) := by omega
  have hmm1 : (m : Int) ≤ (more.size : Int) := by omega
  obtain ⟨s2, hs2⟩ : ∃ x, x = s ++ more.extract 0 m := ⟨_, rfl⟩
  have hmx : (more.extract 0 m).size = m := by rw [ByteArray.size_extract]; omega
  have hd2 : decZ s2.data.toList = (noTx, s.size, 4) := by
    have h := dec_more hok (m := (more.extract 0 m).data.toList) (fun e => by
      have := congrArg List.length e
      rw [data_len, hmx] at this
      simp at this
      omega)
    have e2 : s2.data.toList = encL u (witOf u) ++ (more.extract 0 m).data.toList := by rw [hs2, hsb]; simp [bL]
    rw [e2, h, hsl]
  have hq1 := fun y => decode_any s1 y (by omega)
  rw [hd1] at hq1
  have hq2 := fun y => decode_any s2 y (by rw [hs2, ByteArray.size_append, hmx]; omega)
  rw [hd2] at hq2
  have HQ1 := Lib.hid hq1
  have HQ2 := Lib.hid hq2
  have HS1 := Lib.hid hs1
  have HS2 := Lib.hid hs2
  obtain ⟨hme1, hme2⟩ := toList_nil hm0
  have hk0 : (0 : Int) ≤ (k : Int) := by omega
  have hk1 : (k : Int) ≤ (s.size : Int) := by omega
  have hsI : (s.size : Int) ≤ 200000 := by omega
  have hsP : (0 : Int) < (s.size : Int) := by omega
  have hsN : (s.size : Int) ≠ 0 := by omega
  have hnI : (n1 : Int) ≤ (k : Int) := by omega
  have hn0 : (0 : Int) ≤ (n1 : Int) := by omega
  have hmxI : (more.extract 0 m).size ≤ 50 := by omega
  clear hq1 hq2 hs1 hs2 hd1 hd2 hs1l hs1z hsb hsl hok hc hm hmx hkl hn1 hm0
  go_wp2_with fail
  refine HE.out.mono ?_
  rintro e w2 ⟨rfl, hb⟩
  have HB := Lib.hid (HB.out.trans (hb.mono HB.out.size))
  clear hb HE
  go_wp2_with fail
  refine (wakes6_any w2).mono ?_
  rintro e w3 ⟨rfl, hb⟩
  have HB := Lib.hid (HB.out.trans (hb.mono HB.out.size))
  clear hb
  go_wp2_with fail
  rw [← HS1.out]
  refine (HQ1.out w3).mono ?_
  rintro e w4 ⟨v4, rfl, hown, hb⟩
  obtain ⟨va, vo, rfl, ha, ho, -, -⟩ := hown.tx
  obtain ⟨a3, c3, rfl, -, -⟩ := ha.shape
  obtain ⟨a4, c4, rfl, -, -⟩ := ho.shape
  have HB := Lib.hid (HB.out.trans (hb.mono HB.out.size))
  clear hb hown ha ho HQ1
  go_upto_region 6 with fail
  have hz := heap_alloc_new w4 (.cells #[.int .u32 t1.ver, .slice a3 t1.ins.length c3, .slice a4 t1.outs.length c4, .int .u32 t1.lock] 26)
  have hal : Below w4.heap.size w4 (w4.alloc (.cells #[.int .u32 t1.ver, .slice a3 t1.ins.length c3, .slice a4 t1.outs.length c4, .int .u32 t1.lock] 26)) := (Below.refl _ _).alloc (Nat.le_refl _) _
  obtain ⟨Y4, hY4⟩ : ∃ q, q = w4.heap.size := ⟨_, rfl⟩
  rw [← hY4] at hz ⊢
  generalize w4.alloc (.cells #[.int .u32 t1.ver, .slice a3 t1.ins.length c3, .slice a4 t1.outs.length c4, .int .u32 t1.lock] 26) = w5 at *
  have HB := Lib.hid (HB.out.trans (hal.mono HB.out.size))
  clear hz hal hY4
  go_wp2_with fail
  rw [← HS2.out]
  refine (HQ2.out w5).mono ?_
  rintro e w6 ⟨v6, rfl, hown, hb⟩
  obtain ⟨va, vo, rfl, ha, ho, -, -⟩ := hown.tx
  obtain ⟨a5, c5, rfl, -, -⟩ := ha.shape
  obtain ⟨a6, c6, rfl, -, -⟩ := ho.shape
  have HB := Lib.hid (HB.out.trans (hb.mono HB.out.size))
  clear hb hown ha ho HQ2
  go_upto_region 7 with fail
  have hz := heap_alloc_new w6 (.cells #[.int .u32 noTx.ver, .slice a5 noTx.ins.length c5, .slice a6 noTx.outs.length c6, .int .u32 noTx.lock] 26)
  have hal : Below w6.heap.size w6 (w6.alloc (.cells #[.int .u32 noTx.ver, .slice a5 noTx.ins.length c5, .slice a6 noTx.outs.length c6, .int .u32 noTx.lock] 26)) := (Below.refl _ _).alloc (Nat.le_refl _) _
  obtain ⟨Y6, hY6⟩ : ∃ q, q = w6.heap.size := ⟨_, rfl⟩
  rw [← hY6] at hz ⊢
  generalize w6.alloc (.cells #[.int .u32 noTx.ver, .slice a5 noTx.ins.length c5, .slice a6 noTx.outs.length c6, .int .u32 noTx.lock] 26) = w7 at *
  have HB := Lib.hid (HB.out.trans (hal.mono HB.out.size))
  clear hz hal hY6
  go_wp2_with fail
  refine (wakes6_any w7).mono ?_
  rintro e w8 ⟨rfl, hb⟩
  have HB := Lib.hid (HB.out.trans (hb.mono HB.out.size))
  clear hb
  go_wp2_with fail
  go_ret
  exact ⟨rfl, HB.out⟩
end Go.Proofs.Ytmcknjldimnaoaa
