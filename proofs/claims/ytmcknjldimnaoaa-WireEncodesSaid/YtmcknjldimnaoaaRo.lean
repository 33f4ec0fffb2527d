/-
  WireEncodes: the walk. Conditions: none.
-/
import Derived.Test.YtmcknjldimnaoaaRl
import Derived.Test.YtmcknjldimnaoaaWe
import Derived.Test.YtmcknjldimnaoaaTxTwo
import Derived.Deep.RegionHeld
namespace Go.Proofs.Ytmcknjldimnaoaa
open Go.RowKit Go.BigFrame
set_option linter.unusedVariables false
set_option linter.unusedSimpArgs false

set_option maxRecDepth 100000 in
set_option maxHeartbeats 4000000 in
theorem wireEncodes_walk (v : Value) (t : PTx) (w : World) (hv : TxAt w v t) : Calls Try.prog 9 #[v] w (BIs true w) := by
  obtain ⟨va, vo, rfl, hia, hob, hv1, hv2⟩ := hv
  obtain ⟨a, c, rfl, hl1, hl2⟩ := hia.shape
  obtain ⟨a', c', rfl, hl1', hl2'⟩ := hob.shape
  have htb := TB.start hia hob
  have HTB := Lib.hid htb
  have HV := Lib.hid (And.intro hv1 hv2)
  clear htb hia hob hv1 hv2 hl1 hl2 hl1' hl2'
  obtain ⟨n, hn⟩ : ∃ n, n = t.ins.length := ⟨_, rfl⟩
  obtain ⟨n', hn'⟩ : ∃ n, n = t.outs.length := ⟨_, rfl⟩
  rw [← hn, ← hn'] at HTB
  rw [← hn, ← hn']
  clear hn hn'
  go_enter Try.func9, Try.ntmps9
  go_upto_region 1 with fail
  generalize w.alloc (.cells #[.int .u32 t.ver, .slice a n c, .slice a' n' c', .int .u32 t.lock] 26) = w0 at *
  have c0 : w0.cell? ⟨w.heap.size, 0, none⟩ = some (.int .u32 t.ver) := cell_at HTB.out.box
  have c1 : w0.cell? ⟨w.heap.size, 1, none⟩ = some (.slice a n c) := cell_at HTB.out.box
  have c2 : w0.cell? ⟨w.heap.size, 2, none⟩ = some (.slice a' n' c') := cell_at HTB.out.box
  have c3 : w0.cell? ⟨w.heap.size, 3, none⟩ = some (.int .u32 t.lock) := cell_at HTB.out.box
  have hbd : Below w0.heap.size w0 w0.drew := ⟨rfl, rfl, rfl, Nat.le_refl _, fun _ _ => rfl⟩
  have HTX := Lib.hid (HTB.out.tx HV.out)
  have HTD := Lib.hid ((HTB.out.tx HV.out).below hbd)
  have HB0 := Lib.hid (HTB.out.bel.trans (hbd.mono HTB.out.bel.size))
  clear HTB hbd
  go_region_held (fun w' => w'.cell? ⟨w.heap.size, 0, none⟩ = some (.int .u32 t.ver) ∧ w'.cell? ⟨w.heap.size, 1, none⟩ = some (.slice a n c) ∧ w'.cell? ⟨w.heap.size, 2, none⟩ = some (.slice a' n' c') ∧ w'.cell? ⟨w.heap.size, 3, none⟩ = some (.int .u32 t.lock))
    (first | exact ⟨c0, c1, c2, c3⟩ | exact ⟨below_cells hb1 _ _ c0, below_cells hb1 _ _ c1, below_cells hb1 _ _ c2, below_cells hb1 _ _ c3⟩ | exact ⟨below_cells hb2 _ _ (below_cells hb1 _ _ c0), below_cells hb2 _ _ (below_cells hb1 _ _ c1), below_cells hb2 _ _ (below_cells hb1 _ _ c2), below_cells hb2 _ _ (below_cells hb1 _ _ c3)⟩ | go_keep)
    (first
      | (go_at_call 17; refine (cut12_any _ t _ HTD.out).mono ?_; rintro e w1 ⟨v1, rfl, hown1, hb1⟩; obtain ⟨⟨vi1, vo1, ps1, rfl, hp1, hi1, ho1, ha1⟩, hv1, hv1'⟩ := id hown1; obtain ⟨ai1, ci1, rfl, -, -⟩ := ownsRow_shape hi1.row; obtain ⟨ao1, co1, rfl, -, -⟩ := ownsRow_shape ho1.row)
      | (go_at_call 12; refine (fit_any _ t _ (HTD.out.below hb1)).mono ?_; rintro e w2 ⟨v2, t2, rfl, hown2, hfit2, hb2⟩; obtain ⟨⟨vi2, vo2, ps2, rfl, hp2, hi2, ho2, ha2⟩, hv2, hv2'⟩ := id hown2; obtain ⟨ai2, ci2, rfl, -, -⟩ := ownsRow_shape hi2.row; obtain ⟨ao2, co2, rfl, -, -⟩ := ownsRow_shape ho2.row))
  have hL := heap_alloc_new w2 (.cells #[.int .u32 (cutTx 12 t).ver, .slice ai1 ps1.length ci1, .slice ao1 (cutTx 12 t).outs.length co1, .int .u32 (cutTx 12 t).lock, .int .u32 t2.ver, .slice ai2 ps2.length ci2, .slice ao2 t2.outs.length co2, .int .u32 t2.lock] 26)
  have hbL : Below w2.heap.size w2 (w2.alloc (.cells #[.int .u32 (cutTx 12 t).ver, .slice ai1 ps1.length ci1, .slice ao1 (cutTx 12 t).outs.length co1, .int .u32 (cutTx 12 t).lock, .int .u32 t2.ver, .slice ai2 ps2.length ci2, .slice ao2 t2.outs.length co2, .int .u32 t2.lock] 26)) := (Below.refl _ _).alloc (Nat.le_refl _) _
  obtain ⟨L, hLL⟩ : ∃ L, L = w2.heap.size := ⟨_, rfl⟩
  rw [← hLL] at hL ⊢
  generalize w2.alloc (.cells #[.int .u32 (cutTx 12 t).ver, .slice ai1 ps1.length ci1, .slice ao1 (cutTx 12 t).outs.length co1, .int .u32 (cutTx 12 t).lock, .int .u32 t2.ver, .slice ai2 ps2.length ci2, .slice ao2 t2.outs.length co2, .int .u32 t2.lock] 26) = w3 at *
  have htwo : TwoTx w L (cutTx 12 t) t2 w3 := by
    have hb13 := (hb2.trans (hbL.mono hb2.size))
    refine ⟨(HB0.out.trans (hb1.mono HB0.out.size)).trans (hb13.mono (Nat.le_trans HB0.out.size hb1.size)), fun k hk => ?_⟩
    match k, hk with
    | 0, _ => exact ⟨cutTx 12 t, _, _, _, _, _, _, .inl rfl, hown1.tx.below hb13, by rw [cell_at hL]; rfl, by rw [cell_at hL]; rfl, by rw [cell_at hL]; rfl, by rw [cell_at hL]; rfl⟩
    | 1, _ => exact ⟨t2, _, _, _, _, _, _, .inr rfl, hown2.tx.below hbL, by rw [cell_at hL]; rfl, by rw [cell_at hL]; rfl, by rw [cell_at hL]; rfl, by rw [cell_at hL]; rfl⟩
  have HTW := Lib.hid htwo
  have HFL := Lib.hid (fitted_len hfit2)
  clear htwo hL hbL hLL hb1 hb2 hv1 hv1' hp1 hi1 ho1 hown1 ha1 hfit2 hv2 hv2' hp2 hi2 ho2 hown2 ha2 c0 c1 c2 c3 HTX HTD HB0
  go_wp2_with fail
  go_loopg [16] 2 (fun g i wr => ∃ k : Nat, g = 2 - k ∧ k ≤ 2 ∧ i = .int .i64 k ∧ TwoTx w L (cutTx 12 t) t2 wr)
  case atStart => exact ⟨0, rfl, by omega, rfl, HTW.out⟩
  case round =>
    clear HTW
    rename World => wo
    obtain ⟨k, hgk, hk, rfl, htw⟩ := hrel
    have HGK := Lib.hid hgk
    have HTW := Lib.hid htw
    clear hgk htw
    by_cases hlt : k < 2
    · obtain ⟨u, a1, n1, c1, a2, n2, c2, hu, htx, d0, d1, d2, d3⟩ := HTW.out.at_ k hlt
      have hul : u.outs.length ≤ 1000 := by
        rcases hu with rfl | rfl
        · exact cut12_len t
        · exact HFL.out
      have HUL := Lib.hid hul
      have hlo : (0 : Int) ≤ (k : Int) := by omega
      have hhi : (k : Int) < 2 := by omega
      clear hu hul
      go_upto_region 4 with fail
      have hz := heap_alloc_new wo (.cells #[.int .u32 u.ver, .slice a1 n1 c1, .slice a2 n2 c2, .int .u32 u.lock] 26)
      have hal : Below wo.heap.size wo (wo.alloc (.cells #[.int .u32 u.ver, .slice a1 n1 c1, .slice a2 n2 c2, .int .u32 u.lock] 26)) := (Below.refl _ _).alloc (Nat.le_refl _) _
      have HTX := Lib.hid (htx.below hal)
      have HTW := Lib.hid (HTW.out.next hal)
      obtain ⟨X, hX⟩ : ∃ X, X = wo.heap.size := ⟨_, rfl⟩
      rw [← hX] at hz ⊢
      generalize wo.alloc (.cells #[.int .u32 u.ver, .slice a1 n1 c1, .slice a2 n2 c2, .int .u32 u.lock] 26) = wa at *
      have e0 : wa.cell? ⟨X, 0, none⟩ = some (.int .u32 u.ver) := cell_at hz
      have e1 : wa.cell? ⟨X, 1, none⟩ = some (.slice a1 n1 c1) := cell_at hz
      have e2 : wa.cell? ⟨X, 2, none⟩ = some (.slice a2 n2 c2) := cell_at hz
      have e3 : wa.cell? ⟨X, 3, none⟩ = some (.int .u32 u.lock) := cell_at hz
      clear hz hal hX htx d0 d1 d2 d3
      by_cases hc : checkOf u = 0
      · have HC0 := Lib.hid hc
        clear hc
        obtain ⟨s1, hs1⟩ : ∃ s, s = bL (encL u (witOf u)) := ⟨_, rfl⟩
        obtain ⟨s2, hs2⟩ : ∃ s, s = bL (encL u false) := ⟨_, rfl⟩
        have h1 : encE u (witOf u) = s1 := by rw [hs1]; exact if_pos HC0.out
        have h2 : encE u false = s2 := by rw [hs2]; exact if_pos HC0.out
        have HS1 := Lib.hid hs1
        have HS2 := Lib.hid hs2
        have HE1 := Lib.hid h1
        have HE2 := Lib.hid h2
        have HEN := Lib.hid (enc_of (whole_of HC0.out))
        clear hs1 hs2 h1 h2
        have HQ := Lib.hid (wenc_any _ u wa HTX.out HUL.out)
        rw [HE1.out, HC0.out] at HQ
        go_wp2_with fail
        refine (HQ.out).mono ?_
        rintro e w4 ⟨rfl, hb⟩
        replace e0 := below_cells hb _ _ e0
        replace e1 := below_cells hb _ _ e1
        replace e2 := below_cells hb _ _ e2
        replace e3 := below_cells hb _ _ e3
        have HTX := Lib.hid (HTX.out.below hb)
        have HTW := Lib.hid (HTW.out.next hb)
        clear hb
        have HQ := Lib.hid (wbare_any _ u w4 HTX.out HUL.out)
        rw [HE2.out, HC0.out] at HQ
        go_wp2_with fail
        refine (HQ.out).mono ?_
        rintro e w5 ⟨rfl, hb⟩
        replace e0 := below_cells hb _ _ e0
        replace e1 := below_cells hb _ _ e1
        replace e2 := below_cells hb _ _ e2
        replace e3 := below_cells hb _ _ e3
        have HTX := Lib.hid (HTX.out.below hb)
        have HTW := Lib.hid (HTW.out.next hb)
        clear hb
        have HQ := Lib.hid (rcheck_any _ u w5 HTX.out HUL.out)
        rw [HC0.out] at HQ
        go_wp2_with fail
        refine (HQ.out).mono ?_
        rintro e w6 ⟨rfl, hb⟩
        replace e0 := below_cells hb _ _ e0
        replace e1 := below_cells hb _ _ e1
        replace e2 := below_cells hb _ _ e2
        replace e3 := below_cells hb _ _ e3
        have HTX := Lib.hid (HTX.out.below hb)
        have HTW := Lib.hid (HTW.out.next hb)
        clear hb
        have HQ := Lib.hid (show Calls Try.prog 32 #[.agg #[.int .u32 u.ver, .slice a1 n1 c1, .slice a2 n2 c2, .int .u32 u.lock], .bool false] w6 (SIs (encL u (witOf u)) w6) from rbytes_any _ u false w6 HTX.out HEN.out)
        unfold SIs at HQ
        rw [← HS1.out] at HQ
        go_wp2_with fail
        refine (HQ.out).mono ?_
        rintro e w7 ⟨rfl, hb⟩
        replace e0 := below_cells hb _ _ e0
        replace e1 := below_cells hb _ _ e1
        replace e2 := below_cells hb _ _ e2
        replace e3 := below_cells hb _ _ e3
        have HTX := Lib.hid (HTX.out.below hb)
        have HTW := Lib.hid (HTW.out.next hb)
        clear hb
        have HQ := Lib.hid (show Calls Try.prog 32 #[.agg #[.int .u32 u.ver, .slice a1 n1 c1, .slice a2 n2 c2, .int .u32 u.lock], .bool true] w7 (SIs (encL u false) w7) from rbytes_any _ u true w7 HTX.out HEN.out)
        unfold SIs at HQ
        rw [← HS2.out] at HQ
        go_wp2_with fail
        refine (HQ.out).mono ?_
        rintro e w8 ⟨rfl, hb⟩
        have HTW := Lib.hid (HTW.out.next hb)
        clear hb
        go_wp2_with fail
        go_roundg (2 - (k + 1))
        case measure => have := HGK.out; omega
        case rel => exact ⟨k + 1, rfl, by omega, by go_num, HTW.out⟩
      · have HQ1 := Lib.hid (fun (y : World) h => wenc_any (.agg #[.int .u32 u.ver, .slice a1 n1 c1, .slice a2 n2 c2, .int .u32 u.lock]) u y h HUL.out)
        have HQ2 := Lib.hid (fun (y : World) h => wbare_any (.agg #[.int .u32 u.ver, .slice a1 n1 c1, .slice a2 n2 c2, .int .u32 u.lock]) u y h HUL.out)
        have HQ5 := Lib.hid (fun (y : World) h => rcheck_any (.agg #[.int .u32 u.ver, .slice a1 n1 c1, .slice a2 n2 c2, .int .u32 u.lock]) u y h HUL.out)
        simp only [show encE u (witOf u) = bL [] from if_neg hc] at HQ1
        simp only [show encE u false = bL [] from if_neg hc] at HQ2
        have hc0 := hc
        generalize checkOf u = ck at *
        have hne : (ck == 0) = false := by simpa using hc0
        have hne2 : (ck != 0) = true := by simpa using hc0
        have hbn : bL [] = (⟨#[]⟩ : ByteArray) := rfl
        rw [hbn] at HQ1 HQ2
        clear hbn
        go_wp2_with fail
        refine (HQ1.out wa HTX.out).mono ?_
        rintro e w4 ⟨rfl, hb⟩
        replace e0 := below_cells hb _ _ e0
        replace e1 := below_cells hb _ _ e1
        replace e2 := below_cells hb _ _ e2
        replace e3 := below_cells hb _ _ e3
        have HTX := Lib.hid (HTX.out.below hb)
        have HTW := Lib.hid (HTW.out.next hb)
        clear hb
        go_wp2_with fail
        refine (HQ2.out w4 HTX.out).mono ?_
        rintro e w5 ⟨rfl, hb⟩
        replace e0 := below_cells hb _ _ e0
        replace e1 := below_cells hb _ _ e1
        replace e2 := below_cells hb _ _ e2
        replace e3 := below_cells hb _ _ e3
        have HTX := Lib.hid (HTX.out.below hb)
        have HTW := Lib.hid (HTW.out.next hb)
        clear hb
        go_wp2_with fail
        refine (HQ5.out w5 HTX.out).mono ?_
        rintro e w8 ⟨rfl, hb⟩
        have HTW := Lib.hid (HTW.out.next hb)
        clear hb
        go_wp2_with fail
        go_roundg (2 - (k + 1))
        case measure => have := HGK.out; omega
        case rel => exact ⟨k + 1, rfl, by omega, by go_num, HTW.out⟩
    · obtain rfl : k = 2 := by omega
      go_wp2_with fail
      refine (wakes6_any wo).mono ?_
      rintro e w5 ⟨rfl, hb⟩
      have HB5 := Lib.hid (HTW.out.bel.trans (hb.mono HTW.out.bel.size))
      clear hb
      go_wp2_with fail
      go_ret
      exact ⟨rfl, HB5.out⟩
end Go.Proofs.Ytmcknjldimnaoaa
