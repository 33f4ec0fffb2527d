/-
  WireAgain: the walk. Conditions: none.
-/
import Derived.Test.YtmcknjldimnaoaaRl
namespace Go.Proofs.Ytmcknjldimnaoaa
open Go.RowKit Go.BigFrame
set_option linter.unusedVariables false
set_option linter.unusedSimpArgs false

theorem noTx_at (w : World) : TxAt w (.agg #[.int .u32 0, .slice none 0 0, .slice none 0 0, .int .u32 0]) noTx := (noTx_own 0 w).tx
set_option maxRecDepth 100000 in
set_option maxHeartbeats 4000000 in
theorem wireAgain_walk (s0 : ByteArray) (w : World) (hs0 : s0.size ≤ 9223372036854775807) : Calls Try.prog 7 #[.string s0] w (BIs true w) := by
  obtain ⟨m, hm⟩ : ∃ m, m = min s0.size 1000 := ⟨_, rfl⟩
  have hmn : min (s0.size : Int) 1000 = (m : Int) := by omega
  have hm0 : (0 : Int) ≤ (m : Int) := by omega
  have hm1 : (m : Int) ≤ (s0.size : Int) := by omega
  obtain ⟨s, hs⟩ : ∃ s, s = s0.extract 0 m := ⟨_, rfl⟩
  have hss : s.size ≤ 1000 := by rw [hs, ByteArray.size_extract]; omega
  have hq := fun y => decode_any s y (by omega)
  obtain ⟨t, n, c, hd⟩ : ∃ t n c, decZ s.data.toList = (t, n, c) := ⟨_, _, _, rfl⟩
  rw [hd] at hq
  have HQ := Lib.hid hq
  have hdb := dec_bound s.data.toList
  have hda := dec_again (l := s.data.toList)
  rw [hd, data_len] at hdb hda
  dsimp only at hdb hda
  have HDB := Lib.hid hdb
  have HDA := Lib.hid hda
  have HS := Lib.hid hs
  clear hm hq hdb hda hd
  go_enter Try.func7, Try.ntmps7
  go_upto_region 2 with fail
  rw [← hs]
  clear hs hmn hm0 hm1
  go_wp2_with fail
  refine (HQ.out w).mono ?_
  rintro e w1 ⟨v, rfl, hown, hb⟩
  have htx := hown.tx
  obtain ⟨va, vo, rfl, ha, ho, -, -⟩ := id htx
  obtain ⟨a1, c1, rfl, -, -⟩ := ha.shape
  obtain ⟨a2, c2, rfl, -, -⟩ := ho.shape
  have HT := Lib.hid htx
  have HB := Lib.hid hb
  obtain ⟨n1, hn1⟩ : ∃ n, n = t.ins.length := ⟨_, rfl⟩
  obtain ⟨n2, hn2⟩ : ∃ n, n = t.outs.length := ⟨_, rfl⟩
  have HNO := Lib.hid hn2
  rw [← hn1, ← hn2] at HT ⊢
  clear hb hown ha ho htx HQ hn1 hn2
  go_upto_region 3 with fail
  have hz := heap_alloc_new w1 (.cells #[.int .u32 t.ver, .slice a1 n1 c1, .slice a2 n2 c2, .int .u32 t.lock] 26)
  have hal : Below w1.heap.size w1 (w1.alloc (.cells #[.int .u32 t.ver, .slice a1 n1 c1, .slice a2 n2 c2, .int .u32 t.lock] 26)) := (Below.refl _ _).alloc (Nat.le_refl _) _
  obtain ⟨Y, hY⟩ : ∃ q, q = w1.heap.size := ⟨_, rfl⟩
  rw [← hY] at hz ⊢
  generalize w1.alloc (.cells #[.int .u32 t.ver, .slice a1 n1 c1, .slice a2 n2 c2, .int .u32 t.lock] 26) = w2 at *
  have u0 : w2.cell? ⟨Y, 0, none⟩ = some (.int .u32 t.ver) := cell_at hz
  have u1 : w2.cell? ⟨Y, 1, none⟩ = some (.slice a1 n1 c1) := cell_at hz
  have u2 : w2.cell? ⟨Y, 2, none⟩ = some (.slice a2 n2 c2) := cell_at hz
  have u3 : w2.cell? ⟨Y, 3, none⟩ = some (.int .u32 t.lock) := cell_at hz
  have HT := Lib.hid (HT.out.below hal)
  have HB := Lib.hid (HB.out.trans (hal.mono HB.out.size))
  clear hz hal hY
  by_cases hc : c = 0
  · obtain ⟨h1, h2, h3⟩ := HDA.out hc
    subst hc
    have he : encE t (witOf t) = s := by unfold encE; rw [if_pos h3, h1, bL_data]
    have hol : t.outs.length ≤ 1000 := Nat.le_trans (enc_of (whole_of h3)).outs (by decide)
    have HE := Lib.hid (wenc_any _ t w2 HT.out hol)
    rw [he, h3] at HE
    have hnI : (n : Int) = (s.size : Int) := by omega
    clear h1 h2 h3 he hol
    go_wp2_with fail
    refine HE.out.mono ?_
    rintro e w3 ⟨rfl, hb⟩
    have HB := Lib.hid (HB.out.trans (hb.mono HB.out.size))
    clear hb HE
    go_wp2_with fail
    refine (wakes6_any w3).mono ?_
    rintro e w4 ⟨rfl, hb⟩
    have HB := Lib.hid (HB.out.trans (hb.mono HB.out.size))
    clear hb
    go_wp2_with fail
    go_ret
    exact ⟨rfl, HB.out⟩
  · have hnt := HDB.out.2 hc
    have hcn : (c != 0) = true := by simpa using hc
    have hn0 : (0 : Int) ≤ (n : Int) := by omega
    have hnI : (n : Int) ≤ (s.size : Int) := by have := HDB.out.1; omega
    have HNT := Lib.hid (fun y h => (same_yes (hnt) ▸ same_any (.agg #[.int .u32 t.ver, .slice a1 n1 c1, .slice a2 n2 c2, .int .u32 t.lock]) _ t noTx y h (noTx_at y) : Calls Try.prog 30 _ y (BIs true y)))
    clear hnt hc
    go_wp2_with fail
    refine (wakes6_any w2).mono ?_
    rintro e w4 ⟨rfl, hb⟩
    have HB := Lib.hid (HB.out.trans (hb.mono HB.out.size))
    have HT := Lib.hid (HT.out.below hb)
    replace u0 := below_cells hb _ _ u0
    replace u1 := below_cells hb _ _ u1
    replace u2 := below_cells hb _ _ u2
    replace u3 := below_cells hb _ _ u3
    clear hb
    go_wp2_with fail
    refine (HNT.out w4 HT.out).mono ?_
    rintro e w5 ⟨rfl, hb⟩
    have HB := Lib.hid (HB.out.trans (hb.mono HB.out.size))
    clear hb
    go_wp2_with fail
    go_ret
    exact ⟨rfl, HB.out⟩
end Go.Proofs.Ytmcknjldimnaoaa
