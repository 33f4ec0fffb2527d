/-
  RecApart: its walk. Conditions: none.
-/
import Derived.Test.YtaooibocknemkaaEq1
namespace Go.Proofs.Ytaooibocknemkaa
open Go.RowKit Go.BigFrame
set_option linter.unusedVariables false
set_option linter.unusedSimpArgs false
set_option maxRecDepth 100000 in
set_option maxHeartbeats 16000000 in
theorem recApart_walk (v0 : Value) (zs : List PSml) (w : World) (h0 : SlAt rpSml w v0 zs) : Calls Try.prog 6 #[v0] w (fun e w' => e = .returned (.bool true) ∧ Below w.heap.size w w') := by
  obtain ⟨a0, c0, rfl, hc1, hc2⟩ := h0.shape
  rw [maxLen_eq] at hc2
  obtain ⟨n0, hn0⟩ : ∃ n, n = zs.length := ⟨_, rfl⟩
  rw [← hn0] at h0 hc1 ⊢
  obtain ⟨m, hm⟩ : ∃ m, m = min n0 5 := ⟨_, rfl⟩
  have em : min (n0 : Int) 5 = (m : Int) := by omega
  have hm0 : (0 : Int) ≤ (m : Int) := by omega
  have hmc : (m : Int) ≤ (c0 : Int) := by omega
  have hmn : (m : Int) ≤ (n0 : Int) := by omega
  have HM := Lib.hid (show m ≤ 5 from by omega)
  have HSL := Lib.hid (h0.cut (show m ≤ n0 by omega))
  clear hm hn0 h0
  go_enter Try.func6, Try.ntmps6
  go_wp2_with fail
  go_loopg [3, 4, 26] m (fun g v3 v4 v26 wr => ∃ (k : Nat) (l : List PE) (s : ByteArray), g = m - k ∧ k ≤ m ∧ v26 = .int .i64 k ∧ v4 = .string s ∧ l.length ≤ k ∧ s.size ≤ k * 160000 ∧ s.data.toList = allL l ∧ ApOwn w.heap.size wr v3 l ∧ Below w.heap.size w wr)
  case atStart => exact ⟨0, [], ⟨#[]⟩, rfl, Nat.zero_le _, rfl, rfl, Nat.le_refl _, Nat.le_refl _, rfl, apOwn_nil _ _, Below.refl _ _⟩
  case round =>
    clear em hm0 hmn
    rename World => wo
    obtain ⟨k, l, s, hgk, hk, rfl, rfl, hlk, hsz, hsl, hap, hb⟩ := hrel
    have HGK := Lib.hid hgk
    have HLK := Lib.hid hlk
    have HSZ := Lib.hid hsz
    have HSA := Lib.hid hsl
    have HAP := Lib.hid hap
    have HB := Lib.hid hb
    obtain ⟨va, vc, rfl, -, -⟩ := ownsRow_shape hap.row
    obtain ⟨n, hn⟩ : ∃ n, n = l.length := ⟨_, rfl⟩
    rw [← hn] at HAP HLK ⊢
    have HN := Lib.hid hn
    have HLT := Lib.hid (show ∀ b, (Value.slice va n vc).ownBlock = some b → b < wo.heap.size from fun b hb => (HAP.out.row.lt b hb).2)
    clear hgk hlk hsz hsl hap hb hn
    by_cases hlt : k < m
    · obtain ⟨b, o, z, cs, rfl, hz, hcl, hcells, hat⟩ := (HSL.out.below HB.out).at hlt
      obtain ⟨xva, xvb, xvc, xvd, rfl, g1, g2, g3, g4, gk⟩ := hat
      have HAM := Lib.hid (show SmlV wo (.agg (smlCells z xva xvb xvc xvd).toArray) z from ⟨xva, xvb, xvc, xvd, rfl, g1, g2, g3, g4, gk⟩)
      obtain ⟨xa, xc, rfl, -, -⟩ := g1.shape
      obtain ⟨ya, yc, rfl, -, -⟩ := g2.shape
      obtain ⟨za, zc, rfl, -, -⟩ := g3.shape
      obtain ⟨ta, tc, rfl, -, -⟩ := g4.shape
      obtain ⟨k1, hk1⟩ : ∃ n, n = z.tx.ins.length := ⟨_, rfl⟩
      obtain ⟨k2, hk2⟩ : ∃ n, n = z.tx.outs.length := ⟨_, rfl⟩
      obtain ⟨k3, hk3⟩ : ∃ n, n = z.raw.tx.ins.length := ⟨_, rfl⟩
      obtain ⟨k4, hk4⟩ : ∃ n, n = z.raw.tx.outs.length := ⟨_, rfl⟩
      rw [← hk1, ← hk2, ← hk3, ← hk4] at HAM hcells
      unfold smlCells at HAM hcells
      have HRG := Lib.hid (show wo.rangeAt b (o + k * 36) [.int .u8 z.kind, .int .u8 z.num, .int .u32 z.tx.ver, .slice xa k1 xc, .slice ya k2 yc, .int .u32 z.tx.lock, .int .u8 z.index, .int .u8 z.br, .int .u16 z.tag, .int .u16 z.delay, .int .u32 z.height, .int .u8 z.point, .int .u32 z.val, .int .u32 z.budget, .int .u32 z.fee, .int .u16 z.dead, .int .u16 z.start, .int .i64 z.raw.kind, .int .i64 z.raw.num, .int .u32 z.raw.tx.ver, .slice za k3 zc, .slice ta k4 tc, .int .u32 z.raw.tx.lock, .int .i64 z.raw.index, .string z.raw.id, .int .u32 z.raw.idx, .int .i64 z.raw.val, .int .i64 z.raw.br, .int .u16 z.raw.tag, .int .u16 z.raw.delay, .int .u32 z.raw.height, .int .i64 z.raw.dead, .int .i64 z.raw.budget, .int .i64 z.raw.start, .int .i64 z.raw.fee, .bool z.odd] from hcells)
      clear g1 g2 g3 g4 gk hk1 hk2 hk3 hk4 hcells hcl hz
      have HNW := Lib.hid (heap_alloc_new wo (.cells #[.int .u8 0, .int .u8 0, .int .u32 0, .slice none 0 0, .slice none 0 0, .int .u32 0, .int .u8 0, .int .u8 0, .int .u16 0, .int .u16 0, .int .u32 0, .int .u8 0, .int .u32 0, .int .u32 0, .int .u32 0, .int .u16 0, .int .u16 0, .int .i64 0, .int .i64 0, .int .u32 0, .slice none 0 0, .slice none 0 0, .int .u32 0, .int .i64 0, .string ⟨#[]⟩, .int .u32 0, .int .i64 0, .int .i64 0, .int .u16 0, .int .u16 0, .int .u32 0, .int .i64 0, .int .i64 0, .int .i64 0, .int .i64 0, .bool false] 40))
      have HNR := Lib.hid (setRow_heap (wo.alloc (.cells #[.int .u8 0, .int .u8 0, .int .u32 0, .slice none 0 0, .slice none 0 0, .int .u32 0, .int .u8 0, .int .u8 0, .int .u16 0, .int .u16 0, .int .u32 0, .int .u8 0, .int .u32 0, .int .u32 0, .int .u32 0, .int .u16 0, .int .u16 0, .int .i64 0, .int .i64 0, .int .u32 0, .slice none 0 0, .slice none 0 0, .int .u32 0, .int .i64 0, .string ⟨#[]⟩, .int .u32 0, .int .i64 0, .int .i64 0, .int .u16 0, .int .u16 0, .int .u32 0, .int .i64 0, .int .i64 0, .int .i64 0, .int .i64 0, .bool false] 40)) wo.heap.size _ #[.int .u8 z.kind, .int .u8 z.num, .int .u32 z.tx.ver, .slice xa k1 xc, .slice ya k2 yc, .int .u32 z.tx.lock, .int .u8 z.index, .int .u8 z.br, .int .u16 z.tag, .int .u16 z.delay, .int .u32 z.height, .int .u8 z.point, .int .u32 z.val, .int .u32 z.budget, .int .u32 z.fee, .int .u16 z.dead, .int .u16 z.start, .int .i64 z.raw.kind, .int .i64 z.raw.num, .int .u32 z.raw.tx.ver, .slice za k3 zc, .slice ta k4 tc, .int .u32 z.raw.tx.lock, .int .i64 z.raw.index, .string z.raw.id, .int .u32 z.raw.idx, .int .i64 z.raw.val, .int .i64 z.raw.br, .int .u16 z.raw.tag, .int .u16 z.raw.delay, .int .u32 z.raw.height, .int .i64 z.raw.dead, .int .i64 z.raw.budget, .int .i64 z.raw.start, .int .i64 z.raw.fee, .bool z.odd] _ _ HNW.out)
      have HAL := Lib.hid (show Below wo.heap.size wo ((wo.alloc (.cells #[.int .u8 0, .int .u8 0, .int .u32 0, .slice none 0 0, .slice none 0 0, .int .u32 0, .int .u8 0, .int .u8 0, .int .u16 0, .int .u16 0, .int .u32 0, .int .u8 0, .int .u32 0, .int .u32 0, .int .u32 0, .int .u16 0, .int .u16 0, .int .i64 0, .int .i64 0, .int .u32 0, .slice none 0 0, .slice none 0 0, .int .u32 0, .int .i64 0, .string ⟨#[]⟩, .int .u32 0, .int .i64 0, .int .i64 0, .int .u16 0, .int .u16 0, .int .u32 0, .int .i64 0, .int .i64 0, .int .i64 0, .int .i64 0, .bool false] 40)).setRow wo.heap.size #[.int .u8 z.kind, .int .u8 z.num, .int .u32 z.tx.ver, .slice xa k1 xc, .slice ya k2 yc, .int .u32 z.tx.lock, .int .u8 z.index, .int .u8 z.br, .int .u16 z.tag, .int .u16 z.delay, .int .u32 z.height, .int .u8 z.point, .int .u32 z.val, .int .u32 z.budget, .int .u32 z.fee, .int .u16 z.dead, .int .u16 z.start, .int .i64 z.raw.kind, .int .i64 z.raw.num, .int .u32 z.raw.tx.ver, .slice za k3 zc, .slice ta k4 tc, .int .u32 z.raw.tx.lock, .int .i64 z.raw.index, .string z.raw.id, .int .u32 z.raw.idx, .int .i64 z.raw.val, .int .i64 z.raw.br, .int .u16 z.raw.tag, .int .u16 z.raw.delay, .int .u32 z.raw.height, .int .i64 z.raw.dead, .int .i64 z.raw.budget, .int .i64 z.raw.start, .int .i64 z.raw.fee, .bool z.odd]) from below_rowE ((Below.refl _ _).alloc (Nat.le_refl _) _) (Nat.le_refl _) _)
      go_upto_region 6 with (first | (refine wpList_load_mid rfl 40 (.tmp 28) rfl b (o + k * 36) rfl [.int .u8 z.kind, .int .u8 z.num, .int .u32 z.tx.ver, .slice xa k1 xc, .slice ya k2 yc, .int .u32 z.tx.lock, .int .u8 z.index, .int .u8 z.br, .int .u16 z.tag, .int .u16 z.delay, .int .u32 z.height, .int .u8 z.point, .int .u32 z.val, .int .u32 z.budget, .int .u32 z.fee, .int .u16 z.dead, .int .u16 z.start, .int .i64 z.raw.kind, .int .i64 z.raw.num, .int .u32 z.raw.tx.ver, .slice za k3 zc, .slice ta k4 tc, .int .u32 z.raw.tx.lock, .int .i64 z.raw.index, .string z.raw.id, .int .u32 z.raw.idx, .int .i64 z.raw.val, .int .i64 z.raw.br, .int .u16 z.raw.tag, .int .u16 z.raw.delay, .int .u32 z.raw.height, .int .i64 z.raw.dead, .int .i64 z.raw.budget, .int .i64 z.raw.start, .int .i64 z.raw.fee, .bool z.odd] _ HRG.out Try.underlying40 rfl (by kernel_rfl) ?_) | (refine wpList_store_row rfl 40 (.tmp 6) (.tmp 29) rfl wo.heap.size #[.int .u8 z.kind, .int .u8 z.num, .int .u32 z.tx.ver, .slice xa k1 xc, .slice ya k2 yc, .int .u32 z.tx.lock, .int .u8 z.index, .int .u8 z.br, .int .u16 z.tag, .int .u16 z.delay, .int .u32 z.height, .int .u8 z.point, .int .u32 z.val, .int .u32 z.budget, .int .u32 z.fee, .int .u16 z.dead, .int .u16 z.start, .int .i64 z.raw.kind, .int .i64 z.raw.num, .int .u32 z.raw.tx.ver, .slice za k3 zc, .slice ta k4 tc, .int .u32 z.raw.tx.lock, .int .i64 z.raw.index, .string z.raw.id, .int .u32 z.raw.idx, .int .i64 z.raw.val, .int .i64 z.raw.br, .int .u16 z.raw.tag, .int .u16 z.raw.delay, .int .u32 z.raw.height, .int .i64 z.raw.dead, .int .i64 z.raw.budget, .int .i64 z.raw.start, .int .i64 z.raw.fee, .bool z.odd] rfl rfl 40 _ HNW.out (by kernel_rfl) rfl (by kernel_rfl) ?_))
      clear HNW
      obtain ⟨X, hV⟩ : ∃ q, q = wo.heap.size := ⟨_, rfl⟩
      rw [← hV]
      have hz := HNR.out
      have hal := HAL.out
      clear HNR HAL
      rw [← hV] at hz hal
      generalize (wo.alloc (.cells #[.int .u8 0, .int .u8 0, .int .u32 0, .slice none 0 0, .slice none 0 0, .int .u32 0, .int .u8 0, .int .u8 0, .int .u16 0, .int .u16 0, .int .u32 0, .int .u8 0, .int .u32 0, .int .u32 0, .int .u32 0, .int .u16 0, .int .u16 0, .int .i64 0, .int .i64 0, .int .u32 0, .slice none 0 0, .slice none 0 0, .int .u32 0, .int .i64 0, .string ⟨#[]⟩, .int .u32 0, .int .i64 0, .int .i64 0, .int .u16 0, .int .u16 0, .int .u32 0, .int .i64 0, .int .i64 0, .int .i64 0, .int .i64 0, .bool false] 40)).setRow X #[.int .u8 z.kind, .int .u8 z.num, .int .u32 z.tx.ver, .slice xa k1 xc, .slice ya k2 yc, .int .u32 z.tx.lock, .int .u8 z.index, .int .u8 z.br, .int .u16 z.tag, .int .u16 z.delay, .int .u32 z.height, .int .u8 z.point, .int .u32 z.val, .int .u32 z.budget, .int .u32 z.fee, .int .u16 z.dead, .int .u16 z.start, .int .i64 z.raw.kind, .int .i64 z.raw.num, .int .u32 z.raw.tx.ver, .slice za k3 zc, .slice ta k4 tc, .int .u32 z.raw.tx.lock, .int .i64 z.raw.index, .string z.raw.id, .int .u32 z.raw.idx, .int .i64 z.raw.val, .int .i64 z.raw.br, .int .u16 z.raw.tag, .int .u16 z.raw.delay, .int .u32 z.raw.height, .int .i64 z.raw.dead, .int .i64 z.raw.budget, .int .i64 z.raw.start, .int .i64 z.raw.fee, .bool z.odd] = w1 at *
      rw [hV] at hal
      have HX := Lib.hid hz
      have HB := Lib.hid (HB.out.trans (hal.mono HB.out.size))
      have HAP := Lib.hid (HAP.out.below hal)
      have HAM := Lib.hid (HAM.out.below hal)
      have HW1 := Lib.hid hal.size
      clear hz hal hV
      try rw [put_none_]
      clear HRG
      have HMK := Lib.hid (rmake_any _ z w1 HAM.out)
      clear HAM
      go_wp2_with (refine wpList_load_row rfl 40 (.tmp 6) rfl X rfl 40 #[.int .u8 z.kind, .int .u8 z.num, .int .u32 z.tx.ver, .slice xa k1 xc, .slice ya k2 yc, .int .u32 z.tx.lock, .int .u8 z.index, .int .u8 z.br, .int .u16 z.tag, .int .u16 z.delay, .int .u32 z.height, .int .u8 z.point, .int .u32 z.val, .int .u32 z.budget, .int .u32 z.fee, .int .u16 z.dead, .int .u16 z.start, .int .i64 z.raw.kind, .int .i64 z.raw.num, .int .u32 z.raw.tx.ver, .slice za k3 zc, .slice ta k4 tc, .int .u32 z.raw.tx.lock, .int .i64 z.raw.index, .string z.raw.id, .int .u32 z.raw.idx, .int .i64 z.raw.val, .int .i64 z.raw.br, .int .u16 z.raw.tag, .int .u16 z.raw.delay, .int .u32 z.raw.height, .int .i64 z.raw.dead, .int .i64 z.raw.budget, .int .i64 z.raw.start, .int .i64 z.raw.fee, .bool z.odd] (0, 0) _ HX.out Try.underlying40 rfl (by kernel_rfl) ?_)
      refine HMK.out.mono ?_
      rintro e w2 ⟨v, r, rfl, hr, hout, hb⟩
      have HOUT := Lib.hid hout
      have HB := Lib.hid (HB.out.trans (hb.mono HB.out.size))
      have HAP := Lib.hid (HAP.out.below hb)
      clear hb HMK HX hout
      have hown0 := hr
      obtain ⟨sa, sb, rfl, hto, hsk⟩ := hr
      have hsa := hto.at_.1
      have hsb := hto.at_.2
      obtain ⟨ia, ic, rfl, -, -⟩ := hsa.shape
      obtain ⟨oa, oc, rfl, -, -⟩ := hsb.shape
      obtain ⟨n1, hn1⟩ : ∃ n, n = r.tx.ins.length := ⟨_, rfl⟩
      obtain ⟨n2, hn2⟩ : ∃ n, n = r.tx.outs.length := ⟨_, rfl⟩
      rw [← hn1, ← hn2] at hown0 hto
      rw [← hn1, ← hn2]
      have HAO := Lib.hid hown0
      clear hsa hsb hsk hn1 hn2 hto hown0
      have HNW := Lib.hid (heap_alloc_new w2 (.cells #[.int .i64 0, .int .i64 0, .int .u32 0, .slice none 0 0, .slice none 0 0, .int .u32 0, .int .i64 0, .string ⟨#[]⟩, .int .u32 0, .int .i64 0, .int .i64 0, .int .u16 0, .int .u16 0, .int .u32 0, .int .i64 0, .int .i64 0, .int .i64 0, .int .i64 0] 38))
      have HNR := Lib.hid (setRow_heap (w2.alloc (.cells #[.int .i64 0, .int .i64 0, .int .u32 0, .slice none 0 0, .slice none 0 0, .int .u32 0, .int .i64 0, .string ⟨#[]⟩, .int .u32 0, .int .i64 0, .int .i64 0, .int .u16 0, .int .u16 0, .int .u32 0, .int .i64 0, .int .i64 0, .int .i64 0, .int .i64 0] 38)) w2.heap.size _ #[.int .i64 r.kind, .int .i64 r.num, .int .u32 r.tx.ver, .slice ia n1 ic, .slice oa n2 oc, .int .u32 r.tx.lock, .int .i64 r.index, .string r.id, .int .u32 r.idx, .int .i64 r.val, .int .i64 r.br, .int .u16 r.tag, .int .u16 r.delay, .int .u32 r.height, .int .i64 r.dead, .int .i64 r.budget, .int .i64 r.start, .int .i64 r.fee] _ _ HNW.out)
      have HAL := Lib.hid (show Below w2.heap.size w2 ((w2.alloc (.cells #[.int .i64 0, .int .i64 0, .int .u32 0, .slice none 0 0, .slice none 0 0, .int .u32 0, .int .i64 0, .string ⟨#[]⟩, .int .u32 0, .int .i64 0, .int .i64 0, .int .u16 0, .int .u16 0, .int .u32 0, .int .i64 0, .int .i64 0, .int .i64 0, .int .i64 0] 38)).setRow w2.heap.size #[.int .i64 r.kind, .int .i64 r.num, .int .u32 r.tx.ver, .slice ia n1 ic, .slice oa n2 oc, .int .u32 r.tx.lock, .int .i64 r.index, .string r.id, .int .u32 r.idx, .int .i64 r.val, .int .i64 r.br, .int .u16 r.tag, .int .u16 r.delay, .int .u32 r.height, .int .i64 r.dead, .int .i64 r.budget, .int .i64 r.start, .int .i64 r.fee]) from below_rowE ((Below.refl _ _).alloc (Nat.le_refl _) _) (Nat.le_refl _) _)
      go_upto_region 7 with (refine wpList_store_row rfl 38 (.tmp 7) (.tmp 31) rfl w2.heap.size #[.int .i64 r.kind, .int .i64 r.num, .int .u32 r.tx.ver, .slice ia n1 ic, .slice oa n2 oc, .int .u32 r.tx.lock, .int .i64 r.index, .string r.id, .int .u32 r.idx, .int .i64 r.val, .int .i64 r.br, .int .u16 r.tag, .int .u16 r.delay, .int .u32 r.height, .int .i64 r.dead, .int .i64 r.budget, .int .i64 r.start, .int .i64 r.fee] rfl rfl 38 _ HNW.out (by kernel_rfl) rfl (by kernel_rfl) ?_)
      clear HNW
      obtain ⟨V, hV⟩ : ∃ q, q = w2.heap.size := ⟨_, rfl⟩
      rw [← hV]
      have hz := HNR.out
      have hal := HAL.out
      clear HNR HAL
      rw [← hV] at hz hal
      generalize (w2.alloc (.cells #[.int .i64 0, .int .i64 0, .int .u32 0, .slice none 0 0, .slice none 0 0, .int .u32 0, .int .i64 0, .string ⟨#[]⟩, .int .u32 0, .int .i64 0, .int .i64 0, .int .u16 0, .int .u16 0, .int .u32 0, .int .i64 0, .int .i64 0, .int .i64 0, .int .i64 0] 38)).setRow V #[.int .i64 r.kind, .int .i64 r.num, .int .u32 r.tx.ver, .slice ia n1 ic, .slice oa n2 oc, .int .u32 r.tx.lock, .int .i64 r.index, .string r.id, .int .u32 r.idx, .int .i64 r.val, .int .i64 r.br, .int .u16 r.tag, .int .u16 r.delay, .int .u32 r.height, .int .i64 r.dead, .int .i64 r.budget, .int .i64 r.start, .int .i64 r.fee] = w3 at *
      rw [hV] at hal
      have HV := Lib.hid hz
      have HB := Lib.hid (HB.out.trans (hal.mono HB.out.size))
      have HAP := Lib.hid (HAP.out.below hal)
      have HAO := Lib.hid (HAO.out.below hal)
      clear hz hal hV
      try rw [put_none_]
      obtain ⟨sr, hsr⟩ : ∃ s, s = putE r := ⟨_, rfl⟩
      obtain ⟨cr, hcr⟩ : ∃ c, c = checkR r := ⟨_, rfl⟩
      have PR := Lib.hid (show Calls Try.prog 12 #[.agg #[.int .i64 r.kind, .int .i64 r.num, .int .u32 r.tx.ver, .slice ia n1 ic, .slice oa n2 oc, .int .u32 r.tx.lock, .int .i64 r.index, .string r.id, .int .u32 r.idx, .int .i64 r.val, .int .i64 r.br, .int .u16 r.tag, .int .u16 r.delay, .int .u32 r.height, .int .i64 r.dead, .int .i64 r.budget, .int .i64 r.start, .int .i64 r.fee]] w3 (fun e w' => e = .returned (.tuple #[.string sr, .int .i64 cr]) ∧ Below w3.heap.size w3 w') from by have h2 := recput_any _ r w3 HAO.out.at_ HOUT.out; rw [← hcr, ← hsr] at h2; exact h2)
      have HSR := Lib.hid hsr
      have HCR := Lib.hid hcr
      clear hsr hcr
      go_wp2_with (refine wpList_load_row rfl 38 (.tmp 7) rfl V rfl 38 #[.int .i64 r.kind, .int .i64 r.num, .int .u32 r.tx.ver, .slice ia n1 ic, .slice oa n2 oc, .int .u32 r.tx.lock, .int .i64 r.index, .string r.id, .int .u32 r.idx, .int .i64 r.val, .int .i64 r.br, .int .u16 r.tag, .int .u16 r.delay, .int .u32 r.height, .int .i64 r.dead, .int .i64 r.budget, .int .i64 r.start, .int .i64 r.fee] (0, 0) _ HV.out Try.underlying38 rfl (by kernel_rfl) ?_)
      refine PR.out.mono ?_
      rintro e w4 ⟨rfl, hb⟩
      have HB := Lib.hid (HB.out.trans (hb.mono HB.out.size))
      have HAP := Lib.hid (HAP.out.below hb)
      have HAO := Lib.hid (HAO.out.below hb)
      have HV := Lib.hid (stay HV.out hb)
      clear hb PR
      by_cases hc : cr = 0
      rotate_left
      · have hc2 : (cr == 0) = false := by rw [beq_eq_false_iff_ne]; exact hc
        go_wp2_with fail
        go_roundg (m - (k + 1))
        case measure => have := HGK.out; omega
        case rel => exact ⟨k + 1, l, s, rfl, by omega, by go_num, rfl, by have := HLK.out; have := HN.out; omega, Nat.le_trans HSZ.out (Nat.mul_le_mul_right _ (Nat.le_succ k)), HSA.out, HN.out ▸ HAP.out, HB.out⟩
      subst hc
      have HC0 := Lib.hid HCR.out.symm
      clear HCR
      go_wp2_with fail
      go_loopg [41] n (fun g v41 wx => ∃ j : Nat, g = n - j ∧ j ≤ n ∧ v41 = .int .i64 j ∧ Below w4.heap.size w4 wx)
      case atStart => exact ⟨0, rfl, Nat.zero_le _, rfl, Below.refl _ _⟩
      case round =>
        rename World => w5
        obtain ⟨j, hgj, hj, rfl, hb⟩ := hrel
        have HGJ := Lib.hid hgj
        have HBX := Lib.hid hb
        have HB := Lib.hid (HB.out.trans (hb.mono HB.out.size))
        have HAP := Lib.hid (HAP.out.below hb)
        have HAO := Lib.hid (HAO.out.below hb)
        have HV := Lib.hid (stay HV.out hb)
        clear hgj hb
        have hnb : n ≤ 5 := by have := HLK.out; have := HM.out; omega
        by_cases hjn : j < n
        · obtain ⟨⟨q, qa, qb⟩, hq⟩ : ∃ p, l[j]? = some p := ⟨_, List.getElem?_eq_getElem (by have := HN.out; omega)⟩
          have hqm := HAP.out.each _ (List.mem_of_getElem? hq)
          obtain ⟨b2, hb2, hrange⟩ := HAP.out.range hq
          have hqat := hqm.1.at_
          have hqat2 := hqat
          obtain ⟨sa, sb, hrow, g1, g2, gk⟩ := hqat2
          obtain ⟨rfl, rfl⟩ : qa = sa ∧ qb = sb := by simpa [apRow] using hrow
          clear hrow
          dsimp only at g1 g2 gk
          obtain ⟨ja, jc, rfl, -, -⟩ := g1.shape
          obtain ⟨qa, qc, rfl, -, -⟩ := g2.shape
          obtain ⟨n3, hn3⟩ : ∃ n, n = q.tx.ins.length := ⟨_, rfl⟩
          obtain ⟨n4, hn4⟩ : ∃ n, n = q.tx.outs.length := ⟨_, rfl⟩
          dsimp only at hqm
          rw [← hn3, ← hn4] at hq hqm hrange hqat
          unfold apRow at hrange hqat
          dsimp only at hrange hqat
          have HAQ := Lib.hid hqat
          have HQC := Lib.hid hqm.2
          have HRG := Lib.hid hrange
          have HQ := Lib.hid hq
          obtain rfl := hb2
          clear hqm hrange hqat g1 g2 gk hn3 hn4 hq
          have HNW := Lib.hid (heap_alloc_new w5 (.cells #[.int .i64 0, .int .i64 0, .int .u32 0, .slice none 0 0, .slice none 0 0, .int .u32 0, .int .i64 0, .string ⟨#[]⟩, .int .u32 0, .int .i64 0, .int .i64 0, .int .u16 0, .int .u16 0, .int .u32 0, .int .i64 0, .int .i64 0, .int .i64 0, .int .i64 0] 38))
          have HNR := Lib.hid (setRow_heap (w5.alloc (.cells #[.int .i64 0, .int .i64 0, .int .u32 0, .slice none 0 0, .slice none 0 0, .int .u32 0, .int .i64 0, .string ⟨#[]⟩, .int .u32 0, .int .i64 0, .int .i64 0, .int .u16 0, .int .u16 0, .int .u32 0, .int .i64 0, .int .i64 0, .int .i64 0, .int .i64 0] 38)) w5.heap.size _ #[.int .i64 q.kind, .int .i64 q.num, .int .u32 q.tx.ver, .slice ja n3 jc, .slice qa n4 qc, .int .u32 q.tx.lock, .int .i64 q.index, .string q.id, .int .u32 q.idx, .int .i64 q.val, .int .i64 q.br, .int .u16 q.tag, .int .u16 q.delay, .int .u32 q.height, .int .i64 q.dead, .int .i64 q.budget, .int .i64 q.start, .int .i64 q.fee] _ _ HNW.out)
          have HAL := Lib.hid (show Below w5.heap.size w5 ((w5.alloc (.cells #[.int .i64 0, .int .i64 0, .int .u32 0, .slice none 0 0, .slice none 0 0, .int .u32 0, .int .i64 0, .string ⟨#[]⟩, .int .u32 0, .int .i64 0, .int .i64 0, .int .u16 0, .int .u16 0, .int .u32 0, .int .i64 0, .int .i64 0, .int .i64 0, .int .i64 0] 38)).setRow w5.heap.size #[.int .i64 q.kind, .int .i64 q.num, .int .u32 q.tx.ver, .slice ja n3 jc, .slice qa n4 qc, .int .u32 q.tx.lock, .int .i64 q.index, .string q.id, .int .u32 q.idx, .int .i64 q.val, .int .i64 q.br, .int .u16 q.tag, .int .u16 q.delay, .int .u32 q.height, .int .i64 q.dead, .int .i64 q.budget, .int .i64 q.start, .int .i64 q.fee]) from below_rowE ((Below.refl _ _).alloc (Nat.le_refl _) _) (Nat.le_refl _) _)
          go_upto_region 12 with (first | (refine wpList_load_mid rfl 38 (.tmp 43) rfl b2 (j * 18) rfl [.int .i64 q.kind, .int .i64 q.num, .int .u32 q.tx.ver, .slice ja n3 jc, .slice qa n4 qc, .int .u32 q.tx.lock, .int .i64 q.index, .string q.id, .int .u32 q.idx, .int .i64 q.val, .int .i64 q.br, .int .u16 q.tag, .int .u16 q.delay, .int .u32 q.height, .int .i64 q.dead, .int .i64 q.budget, .int .i64 q.start, .int .i64 q.fee] _ HRG.out Try.underlying38 rfl (by kernel_rfl) ?_) | (refine wpList_store_row rfl 38 (.tmp 11) (.tmp 44) rfl w5.heap.size #[.int .i64 q.kind, .int .i64 q.num, .int .u32 q.tx.ver, .slice ja n3 jc, .slice qa n4 qc, .int .u32 q.tx.lock, .int .i64 q.index, .string q.id, .int .u32 q.idx, .int .i64 q.val, .int .i64 q.br, .int .u16 q.tag, .int .u16 q.delay, .int .u32 q.height, .int .i64 q.dead, .int .i64 q.budget, .int .i64 q.start, .int .i64 q.fee] rfl rfl 38 _ HNW.out (by kernel_rfl) rfl (by kernel_rfl) ?_))
          clear HNW
          obtain ⟨U, hV⟩ : ∃ q, q = w5.heap.size := ⟨_, rfl⟩
          rw [← hV]
          have hz := HNR.out
          have hal := HAL.out
          clear HNR HAL
          rw [← hV] at hz hal
          generalize (w5.alloc (.cells #[.int .i64 0, .int .i64 0, .int .u32 0, .slice none 0 0, .slice none 0 0, .int .u32 0, .int .i64 0, .string ⟨#[]⟩, .int .u32 0, .int .i64 0, .int .i64 0, .int .u16 0, .int .u16 0, .int .u32 0, .int .i64 0, .int .i64 0, .int .i64 0, .int .i64 0] 38)).setRow U #[.int .i64 q.kind, .int .i64 q.num, .int .u32 q.tx.ver, .slice ja n3 jc, .slice qa n4 qc, .int .u32 q.tx.lock, .int .i64 q.index, .string q.id, .int .u32 q.idx, .int .i64 q.val, .int .i64 q.br, .int .u16 q.tag, .int .u16 q.delay, .int .u32 q.height, .int .i64 q.dead, .int .i64 q.budget, .int .i64 q.start, .int .i64 q.fee] = w6 at *
          rw [hV] at hal
          have HU := Lib.hid hz
          have HB := Lib.hid (HB.out.trans (hal.mono HB.out.size))
          have HAP := Lib.hid (HAP.out.below hal)
          have HAO := Lib.hid (HAO.out.below hal)
          have HAQ := Lib.hid (HAQ.out.below hal)
          have HV := Lib.hid (stay HV.out hal)
          have HBX := Lib.hid (HBX.out.trans (hal.mono HBX.out.size))
          clear hz hal hV
          try rw [put_none_]
          clear HRG
          obtain ⟨sq, hsq⟩ : ∃ s, s = putE q := ⟨_, rfl⟩
          have PQ := Lib.hid (show Calls Try.prog 12 #[.agg #[.int .i64 q.kind, .int .i64 q.num, .int .u32 q.tx.ver, .slice ja n3 jc, .slice qa n4 qc, .int .u32 q.tx.lock, .int .i64 q.index, .string q.id, .int .u32 q.idx, .int .i64 q.val, .int .i64 q.br, .int .u16 q.tag, .int .u16 q.delay, .int .u32 q.height, .int .i64 q.dead, .int .i64 q.budget, .int .i64 q.start, .int .i64 q.fee]] w6 (fun e w' => e = .returned (.tuple #[.string sq, .int .i64 0]) ∧ Below w6.heap.size w6 w') from by have h2 := recput_any _ q w6 HAQ.out (outs_of_check HQC.out); rw [HQC.out, ← hsq] at h2; exact h2)
          go_wp2_with (refine wpList_load_row rfl 38 (.tmp 11) rfl U rfl 38 #[.int .i64 q.kind, .int .i64 q.num, .int .u32 q.tx.ver, .slice ja n3 jc, .slice qa n4 qc, .int .u32 q.tx.lock, .int .i64 q.index, .string q.id, .int .u32 q.idx, .int .i64 q.val, .int .i64 q.br, .int .u16 q.tag, .int .u16 q.delay, .int .u32 q.height, .int .i64 q.dead, .int .i64 q.budget, .int .i64 q.start, .int .i64 q.fee] (0, 0) _ HU.out Try.underlying38 rfl (by kernel_rfl) ?_)
          refine PQ.out.mono ?_
          rintro e w7 ⟨rfl, hb⟩
          have HB := Lib.hid (HB.out.trans (hb.mono HB.out.size))
          have HAP := Lib.hid (HAP.out.below hb)
          have HAO := Lib.hid (HAO.out.below hb)
          have HAQ := Lib.hid (HAQ.out.below hb)
          have HV := Lib.hid (stay HV.out hb)
          have HU := Lib.hid (stay HU.out hb)
          have HBX := Lib.hid (HBX.out.trans (hb.mono HBX.out.size))
          clear hb PQ
          have EQ := Lib.hid (show Calls Try.prog 13 #[.agg #[.int .i64 q.kind, .int .i64 q.num, .int .u32 q.tx.ver, .slice ja n3 jc, .slice qa n4 qc, .int .u32 q.tx.lock, .int .i64 q.index, .string q.id, .int .u32 q.idx, .int .i64 q.val, .int .i64 q.br, .int .u16 q.tag, .int .u16 q.delay, .int .u32 q.height, .int .i64 q.dead, .int .i64 q.budget, .int .i64 q.start, .int .i64 q.fee], .agg #[.int .i64 r.kind, .int .i64 r.num, .int .u32 r.tx.ver, .slice ia n1 ic, .slice oa n2 oc, .int .u32 r.tx.lock, .int .i64 r.index, .string r.id, .int .u32 r.idx, .int .i64 r.val, .int .i64 r.br, .int .u16 r.tag, .int .u16 r.delay, .int .u32 r.height, .int .i64 r.dead, .int .i64 r.budget, .int .i64 r.start, .int .i64 r.fee]] w7 (BIs (sameR q r) w7) from recequal_any _ _ q r w7 HAQ.out HAO.out.at_)
          by_cases hqr : q = r
          · rw [sameR_yes hqr] at EQ
            have hss : sq = sr := by rw [hsq, HSR.out, hqr]
            clear hsq hqr
            subst hss
            go_wp2_with (first | (refine wpList_load_row_g 38 (.tmp 11) rfl U rfl 38 #[.int .i64 q.kind, .int .i64 q.num, .int .u32 q.tx.ver, .slice ja n3 jc, .slice qa n4 qc, .int .u32 q.tx.lock, .int .i64 q.index, .string q.id, .int .u32 q.idx, .int .i64 q.val, .int .i64 q.br, .int .u16 q.tag, .int .u16 q.delay, .int .u32 q.height, .int .i64 q.dead, .int .i64 q.budget, .int .i64 q.start, .int .i64 q.fee] (0, 0) _ HU.out Try.underlying38 rfl (by kernel_rfl) (by kernel_rfl) ?_) | (refine wpList_load_row_g 38 (.tmp 7) rfl V rfl 38 #[.int .i64 r.kind, .int .i64 r.num, .int .u32 r.tx.ver, .slice ia n1 ic, .slice oa n2 oc, .int .u32 r.tx.lock, .int .i64 r.index, .string r.id, .int .u32 r.idx, .int .i64 r.val, .int .i64 r.br, .int .u16 r.tag, .int .u16 r.delay, .int .u32 r.height, .int .i64 r.dead, .int .i64 r.budget, .int .i64 r.start, .int .i64 r.fee] (0, 0) _ HV.out Try.underlying38 rfl (by kernel_rfl) (by kernel_rfl) ?_))
            refine EQ.out.mono ?_
            rintro e w8 ⟨rfl, hb⟩
            have HBW := Lib.hid (show Below w4.heap.size w4 w8 from HBX.out.trans (hb.mono HBX.out.size))
            clear hb EQ
            go_wp2_with fail
            go_roundg (n - (j + 1))
            case measure => have := HGJ.out; omega
            case rel =>
              exact ⟨j + 1, rfl, by omega, by go_num, HBW.out⟩
          · rw [sameR_no hqr] at EQ
            have hrl := putE_zero HC0.out
            have hql := putE_zero HQC.out
            rw [← HSR.out] at hrl
            rw [← hsq] at hql
            have hne : sr ≠ sq := fun e => hqr (putL_apart HQC.out (recN_of HAQ.out) HC0.out (recN_of HAO.out.at_) (b := []) (by rw [List.append_nil, ← hql, ← hrl, e]))
            have hne1 := bytes_ne hne
            have hne2 : ¬ sr.toList = sq.toList := by simpa using hne1
            have hne3 : sq.size ≤ sr.size → (sr.extract 0 sq.size) ≠ sq := fun h e => hqr (putL_apart HC0.out (recN_of HAO.out.at_) HQC.out (recN_of HAQ.out) (b := sr.data.toList.drop sq.size) (by rw [← hrl, ← hql]; conv => lhs; rw [← List.take_append_drop sq.size sr.data.toList, ← extract_take, e])).symm
            clear hrl hql hsq hne
            by_cases hlen : (sq.size : Int) ≤ (sr.size : Int)
            · clear hqr
              have h5 := bytes_ne (hne3 (by omega))
              have h6 : ¬ (sr.extract 0 sq.size).toList = sq.toList := by simpa using h5
              have h7 : (0 : Int) ≤ (sq.size : Int) := by omega
              clear hne3
              go_wp2_with (first | (refine wpList_load_row_g 38 (.tmp 11) rfl U rfl 38 #[.int .i64 q.kind, .int .i64 q.num, .int .u32 q.tx.ver, .slice ja n3 jc, .slice qa n4 qc, .int .u32 q.tx.lock, .int .i64 q.index, .string q.id, .int .u32 q.idx, .int .i64 q.val, .int .i64 q.br, .int .u16 q.tag, .int .u16 q.delay, .int .u32 q.height, .int .i64 q.dead, .int .i64 q.budget, .int .i64 q.start, .int .i64 q.fee] (0, 0) _ HU.out Try.underlying38 rfl (by kernel_rfl) (by kernel_rfl) ?_) | (refine wpList_load_row_g 38 (.tmp 7) rfl V rfl 38 #[.int .i64 r.kind, .int .i64 r.num, .int .u32 r.tx.ver, .slice ia n1 ic, .slice oa n2 oc, .int .u32 r.tx.lock, .int .i64 r.index, .string r.id, .int .u32 r.idx, .int .i64 r.val, .int .i64 r.br, .int .u16 r.tag, .int .u16 r.delay, .int .u32 r.height, .int .i64 r.dead, .int .i64 r.budget, .int .i64 r.start, .int .i64 r.fee] (0, 0) _ HV.out Try.underlying38 rfl (by kernel_rfl) (by kernel_rfl) ?_))
              refine EQ.out.mono ?_
              rintro e w8 ⟨rfl, hb⟩
              have HBW := Lib.hid (show Below w4.heap.size w4 w8 from HBX.out.trans (hb.mono HBX.out.size))
              clear hb EQ
              go_wp2_with fail
              go_roundg (n - (j + 1))
              case measure => have := HGJ.out; omega
              case rel =>
                exact ⟨j + 1, rfl, by omega, by go_num, HBW.out⟩
            · clear hne3 hqr
              go_wp2_with (first | (refine wpList_load_row_g 38 (.tmp 11) rfl U rfl 38 #[.int .i64 q.kind, .int .i64 q.num, .int .u32 q.tx.ver, .slice ja n3 jc, .slice qa n4 qc, .int .u32 q.tx.lock, .int .i64 q.index, .string q.id, .int .u32 q.idx, .int .i64 q.val, .int .i64 q.br, .int .u16 q.tag, .int .u16 q.delay, .int .u32 q.height, .int .i64 q.dead, .int .i64 q.budget, .int .i64 q.start, .int .i64 q.fee] (0, 0) _ HU.out Try.underlying38 rfl (by kernel_rfl) (by kernel_rfl) ?_) | (refine wpList_load_row_g 38 (.tmp 7) rfl V rfl 38 #[.int .i64 r.kind, .int .i64 r.num, .int .u32 r.tx.ver, .slice ia n1 ic, .slice oa n2 oc, .int .u32 r.tx.lock, .int .i64 r.index, .string r.id, .int .u32 r.idx, .int .i64 r.val, .int .i64 r.br, .int .u16 r.tag, .int .u16 r.delay, .int .u32 r.height, .int .i64 r.dead, .int .i64 r.budget, .int .i64 r.start, .int .i64 r.fee] (0, 0) _ HV.out Try.underlying38 rfl (by kernel_rfl) (by kernel_rfl) ?_))
              refine EQ.out.mono ?_
              rintro e w8 ⟨rfl, hb⟩
              have HBW := Lib.hid (show Below w4.heap.size w4 w8 from HBX.out.trans (hb.mono HBX.out.size))
              clear hb EQ
              go_wp2_with fail
              go_roundg (n - (j + 1))
              case measure => have := HGJ.out; omega
              case rel =>
                exact ⟨j + 1, rfl, by omega, by go_num, HBW.out⟩
        · have hrl := putE_zero HC0.out
          rw [← HSR.out] at hrl
          have hbut : RecBut (Value.slice va n vc).ownBlock w5 ((r, .slice ia n1 ic, .slice oa n2 oc) : PE) := RecBut.of HAO.out (fun b hb => Nat.lt_of_lt_of_le (HLT.out b hb) HW1.out)
          obtain ⟨a2, c2, wd, hrun, hap2, hbd⟩ := HAP.out.app hbut HC0.out (by intro u hu; simp [apRow] at hu; rcases hu with rfl | rfl | rfl | rfl | rfl | rfl | rfl | rfl | rfl | rfl | rfl | rfl | rfl | rfl | rfl | rfl | rfl | rfl <;> rfl) (by have := HLK.out; have := HN.out; have := HM.out; omega) HB.out.size
          rw [← HN.out] at hrun hap2
          have HR := Lib.hid hrun
          have HAP2 := Lib.hid hap2
          have HBD := Lib.hid hbd
          clear hrun hap2 hbd hbut
          have q1 : s.size ≤ 800000 := by have := HSZ.out; have := HM.out; omega
          have hpl := (payL_le HC0.out).2
          have hptl := putL_len r
          have q2 : sr.size ≤ 160000 := by rw [← data_len, hrl]; omega
          have HS2 := Lib.hid (show (s ++ sr).data.toList = allL (l ++ [((r, .slice ia n1 ic, .slice oa n2 oc) : PE)]) from by rw [allL_snoc, ← HSA.out, ← hrl]; simp)
          clear hrl hpl hptl
          go_wp2_with (first | (refine wpList_load_row rfl 38 (.tmp 7) rfl V rfl 38 #[.int .i64 r.kind, .int .i64 r.num, .int .u32 r.tx.ver, .slice ia n1 ic, .slice oa n2 oc, .int .u32 r.tx.lock, .int .i64 r.index, .string r.id, .int .u32 r.idx, .int .i64 r.val, .int .i64 r.br, .int .u16 r.tag, .int .u16 r.delay, .int .u32 r.height, .int .i64 r.dead, .int .i64 r.budget, .int .i64 r.start, .int .i64 r.fee] (0, 0) _ HV.out Try.underlying38 rfl (by kernel_rfl) ?_) | (at_builtin; refine wpList_append_run rfl (.tmp 82) (.tmp 84) 52 52 rfl rfl rfl HR.out ?_))
          go_roundg (m - (k + 1))
          case measure => have := HGK.out; omega
          case rel => exact ⟨k + 1, _, s ++ sr, rfl, by omega, by go_num, rfl, by rw [List.length_append]; have := HLK.out; have := HN.out; simp; omega, by rw [ByteArray.size_append]; have := HSZ.out; omega, HS2.out, HAP2.out, HB.out.trans HBD.out⟩
    · skip
      go_wp2_with fail
      go_loopg [14, 92] n (fun g v14 v92 wx => ∃ j : Nat, g = n - j ∧ j ≤ n ∧ v92 = .int .i64 j ∧ v14 = .int .i64 (allL (l.take j)).length ∧ Below wo.heap.size wo wx)
      case atStart => exact ⟨0, rfl, Nat.zero_le _, rfl, rfl, Below.refl _ _⟩
      case round =>
        rename World => w5
        obtain ⟨j, hgj, hj, rfl, rfl, hb⟩ := hrel
        have HGJ := Lib.hid hgj
        have HBX := Lib.hid hb
        have HB := Lib.hid (HB.out.trans (hb.mono HB.out.size))
        have HAP := Lib.hid (HAP.out.below hb)
        clear hgj hb
        obtain ⟨at_, hat_⟩ : ∃ n, n = (allL (l.take j)).length := ⟨_, rfl⟩
        rw [← hat_]
        have HAT_ := Lib.hid hat_
        clear hat_
        have hnb : n ≤ 5 := by have := HLK.out; have := HM.out; omega
        by_cases hjn : j < n
        · obtain ⟨⟨q, qa, qb⟩, hq⟩ : ∃ p, l[j]? = some p := ⟨_, List.getElem?_eq_getElem (by have := HN.out; omega)⟩
          have hqm := HAP.out.each _ (List.mem_of_getElem? hq)
          obtain ⟨b2, hb2, hrange⟩ := HAP.out.range hq
          have hqat := hqm.1.at_
          have hqat2 := hqat
          obtain ⟨sa, sb, hrow, g1, g2, gk⟩ := hqat2
          obtain ⟨rfl, rfl⟩ : qa = sa ∧ qb = sb := by simpa [apRow] using hrow
          clear hrow
          dsimp only at g1 g2 gk
          obtain ⟨ja, jc, rfl, -, -⟩ := g1.shape
          obtain ⟨qa, qc, rfl, -, -⟩ := g2.shape
          obtain ⟨n3, hn3⟩ : ∃ n, n = q.tx.ins.length := ⟨_, rfl⟩
          obtain ⟨n4, hn4⟩ : ∃ n, n = q.tx.outs.length := ⟨_, rfl⟩
          dsimp only at hqm
          rw [← hn3, ← hn4] at hq hqm hrange hqat
          unfold apRow at hrange hqat
          dsimp only at hrange hqat
          have HAQ := Lib.hid hqat
          have HQC := Lib.hid hqm.2
          have HRG := Lib.hid hrange
          have HQ := Lib.hid hq
          obtain rfl := hb2
          clear hqm hrange hqat g1 g2 gk hn3 hn4 hq
          have HNW := Lib.hid (heap_alloc_new w5 (.cells #[.int .i64 0, .int .i64 0, .int .u32 0, .slice none 0 0, .slice none 0 0, .int .u32 0, .int .i64 0, .string ⟨#[]⟩, .int .u32 0, .int .i64 0, .int .i64 0, .int .u16 0, .int .u16 0, .int .u32 0, .int .i64 0, .int .i64 0, .int .i64 0, .int .i64 0] 38))
          have HNR := Lib.hid (setRow_heap (w5.alloc (.cells #[.int .i64 0, .int .i64 0, .int .u32 0, .slice none 0 0, .slice none 0 0, .int .u32 0, .int .i64 0, .string ⟨#[]⟩, .int .u32 0, .int .i64 0, .int .i64 0, .int .u16 0, .int .u16 0, .int .u32 0, .int .i64 0, .int .i64 0, .int .i64 0, .int .i64 0] 38)) w5.heap.size _ #[.int .i64 q.kind, .int .i64 q.num, .int .u32 q.tx.ver, .slice ja n3 jc, .slice qa n4 qc, .int .u32 q.tx.lock, .int .i64 q.index, .string q.id, .int .u32 q.idx, .int .i64 q.val, .int .i64 q.br, .int .u16 q.tag, .int .u16 q.delay, .int .u32 q.height, .int .i64 q.dead, .int .i64 q.budget, .int .i64 q.start, .int .i64 q.fee] _ _ HNW.out)
          have HAL := Lib.hid (show Below w5.heap.size w5 ((w5.alloc (.cells #[.int .i64 0, .int .i64 0, .int .u32 0, .slice none 0 0, .slice none 0 0, .int .u32 0, .int .i64 0, .string ⟨#[]⟩, .int .u32 0, .int .i64 0, .int .i64 0, .int .u16 0, .int .u16 0, .int .u32 0, .int .i64 0, .int .i64 0, .int .i64 0, .int .i64 0] 38)).setRow w5.heap.size #[.int .i64 q.kind, .int .i64 q.num, .int .u32 q.tx.ver, .slice ja n3 jc, .slice qa n4 qc, .int .u32 q.tx.lock, .int .i64 q.index, .string q.id, .int .u32 q.idx, .int .i64 q.val, .int .i64 q.br, .int .u16 q.tag, .int .u16 q.delay, .int .u32 q.height, .int .i64 q.dead, .int .i64 q.budget, .int .i64 q.start, .int .i64 q.fee]) from below_rowE ((Below.refl _ _).alloc (Nat.le_refl _) _) (Nat.le_refl _) _)
          go_upto_region 23 with (first | (refine wpList_load_mid rfl 38 (.tmp 94) rfl b2 (j * 18) rfl [.int .i64 q.kind, .int .i64 q.num, .int .u32 q.tx.ver, .slice ja n3 jc, .slice qa n4 qc, .int .u32 q.tx.lock, .int .i64 q.index, .string q.id, .int .u32 q.idx, .int .i64 q.val, .int .i64 q.br, .int .u16 q.tag, .int .u16 q.delay, .int .u32 q.height, .int .i64 q.dead, .int .i64 q.budget, .int .i64 q.start, .int .i64 q.fee] _ HRG.out Try.underlying38 rfl (by kernel_rfl) ?_) | (refine wpList_store_row rfl 38 (.tmp 16) (.tmp 95) rfl w5.heap.size #[.int .i64 q.kind, .int .i64 q.num, .int .u32 q.tx.ver, .slice ja n3 jc, .slice qa n4 qc, .int .u32 q.tx.lock, .int .i64 q.index, .string q.id, .int .u32 q.idx, .int .i64 q.val, .int .i64 q.br, .int .u16 q.tag, .int .u16 q.delay, .int .u32 q.height, .int .i64 q.dead, .int .i64 q.budget, .int .i64 q.start, .int .i64 q.fee] rfl rfl 38 _ HNW.out (by kernel_rfl) rfl (by kernel_rfl) ?_))
          clear HNW
          obtain ⟨U, hV⟩ : ∃ q, q = w5.heap.size := ⟨_, rfl⟩
          rw [← hV]
          have hz := HNR.out
          have hal := HAL.out
          clear HNR HAL
          rw [← hV] at hz hal
          generalize (w5.alloc (.cells #[.int .i64 0, .int .i64 0, .int .u32 0, .slice none 0 0, .slice none 0 0, .int .u32 0, .int .i64 0, .string ⟨#[]⟩, .int .u32 0, .int .i64 0, .int .i64 0, .int .u16 0, .int .u16 0, .int .u32 0, .int .i64 0, .int .i64 0, .int .i64 0, .int .i64 0] 38)).setRow U #[.int .i64 q.kind, .int .i64 q.num, .int .u32 q.tx.ver, .slice ja n3 jc, .slice qa n4 qc, .int .u32 q.tx.lock, .int .i64 q.index, .string q.id, .int .u32 q.idx, .int .i64 q.val, .int .i64 q.br, .int .u16 q.tag, .int .u16 q.delay, .int .u32 q.height, .int .i64 q.dead, .int .i64 q.budget, .int .i64 q.start, .int .i64 q.fee] = w6 at *
          rw [hV] at hal
          have HU := Lib.hid hz
          have HB := Lib.hid (HB.out.trans (hal.mono HB.out.size))
          have HAQ := Lib.hid (HAQ.out.below hal)
          have HBX := Lib.hid (HBX.out.trans (hal.mono HBX.out.size))
          clear hz hal hV
          try rw [put_none_]
          clear HRG
          obtain ⟨en, hen⟩ : ∃ n, n = at_ + (putL q).length := ⟨_, rfl⟩
          have hnext : en = (allL (l.take (j + 1))).length := by rw [take_snoc HQ.out, allL_snoc, List.length_append, ← HAT_.out, hen]
          have hsplit : s.data.toList = allL (l.take j) ++ (putL q ++ allL (l.drop (j + 1))) := by
            rw [HSA.out]
            conv => lhs; rw [← List.take_append_drop (j + 1) l, take_snoc HQ.out]
            simp [allL]
          have hle : at_ ≤ s.size := by rw [← data_len, hsplit, List.length_append, ← HAT_.out]; omega
          have hs8 : s.size ≤ 9223372036854775000 := by have := HSZ.out; have := HM.out; omega
          have G1 := Lib.hid (show Calls Try.prog 11 #[.string s, .int .i64 at_] w6 (fun e w' => ∃ v, e = .returned (.tuple #[v, .int .i64 en, .int .i64 0]) ∧ RecOwn w6.heap.size w' v q ∧ Below w6.heap.size w6 w') from by
            have h2 := recget_any s at_ w6 hs8 hle
            rw [hsplit, HAT_.out, get_back HQC.out (recN_of HAQ.out), ← HAT_.out, ← hen] at h2
            exact h2)
          have hpl := (payL_le HQC.out).1
          have hptl := putL_len q
          have hend : ¬ (en : Int) ≤ (at_ : Int) := by omega
          have HNX := Lib.hid hnext
          clear hen hnext hsplit hle hs8 hpl hptl
          go_wp2_with fail
          refine G1.out.mono ?_
          rintro e w7 ⟨v, rfl, hg, hb⟩
          have HBX := Lib.hid (HBX.out.trans (hb.mono HBX.out.size))
          have HB := Lib.hid (HB.out.trans (hb.mono HB.out.size))
          have HAQ := Lib.hid (HAQ.out.below hb)
          have HU := Lib.hid (stay HU.out hb)
          clear hb G1
          have hown0 := hg
          obtain ⟨sa, sb, rfl, hto, hsk⟩ := hg
          have hsa := hto.at_.1
          have hsb := hto.at_.2
          obtain ⟨ba, bc, rfl, -, -⟩ := hsa.shape
          obtain ⟨da, dc, rfl, -, -⟩ := hsb.shape
          obtain ⟨n5, hn1⟩ : ∃ n, n = q.tx.ins.length := ⟨_, rfl⟩
          obtain ⟨n6, hn2⟩ : ∃ n, n = q.tx.outs.length := ⟨_, rfl⟩
          rw [← hn1, ← hn2] at hown0 hto
          rw [← hn1, ← hn2]
          have HAG := Lib.hid hown0
          clear hsa hsb hsk hn1 hn2 hto hown0
          have HNW := Lib.hid (heap_alloc_new w7 (.cells #[.int .i64 0, .int .i64 0, .int .u32 0, .slice none 0 0, .slice none 0 0, .int .u32 0, .int .i64 0, .string ⟨#[]⟩, .int .u32 0, .int .i64 0, .int .i64 0, .int .u16 0, .int .u16 0, .int .u32 0, .int .i64 0, .int .i64 0, .int .i64 0, .int .i64 0] 38))
          have HNR := Lib.hid (setRow_heap (w7.alloc (.cells #[.int .i64 0, .int .i64 0, .int .u32 0, .slice none 0 0, .slice none 0 0, .int .u32 0, .int .i64 0, .string ⟨#[]⟩, .int .u32 0, .int .i64 0, .int .i64 0, .int .u16 0, .int .u16 0, .int .u32 0, .int .i64 0, .int .i64 0, .int .i64 0, .int .i64 0] 38)) w7.heap.size _ #[.int .i64 q.kind, .int .i64 q.num, .int .u32 q.tx.ver, .slice ba n5 bc, .slice da n6 dc, .int .u32 q.tx.lock, .int .i64 q.index, .string q.id, .int .u32 q.idx, .int .i64 q.val, .int .i64 q.br, .int .u16 q.tag, .int .u16 q.delay, .int .u32 q.height, .int .i64 q.dead, .int .i64 q.budget, .int .i64 q.start, .int .i64 q.fee] _ _ HNW.out)
          have HAL := Lib.hid (show Below w7.heap.size w7 ((w7.alloc (.cells #[.int .i64 0, .int .i64 0, .int .u32 0, .slice none 0 0, .slice none 0 0, .int .u32 0, .int .i64 0, .string ⟨#[]⟩, .int .u32 0, .int .i64 0, .int .i64 0, .int .u16 0, .int .u16 0, .int .u32 0, .int .i64 0, .int .i64 0, .int .i64 0, .int .i64 0] 38)).setRow w7.heap.size #[.int .i64 q.kind, .int .i64 q.num, .int .u32 q.tx.ver, .slice ba n5 bc, .slice da n6 dc, .int .u32 q.tx.lock, .int .i64 q.index, .string q.id, .int .u32 q.idx, .int .i64 q.val, .int .i64 q.br, .int .u16 q.tag, .int .u16 q.delay, .int .u32 q.height, .int .i64 q.dead, .int .i64 q.budget, .int .i64 q.start, .int .i64 q.fee]) from below_rowE ((Below.refl _ _).alloc (Nat.le_refl _) _) (Nat.le_refl _) _)
          go_upto_region 24 with (refine wpList_store_row rfl 38 (.tmp 17) (.tmp 100) rfl w7.heap.size #[.int .i64 q.kind, .int .i64 q.num, .int .u32 q.tx.ver, .slice ba n5 bc, .slice da n6 dc, .int .u32 q.tx.lock, .int .i64 q.index, .string q.id, .int .u32 q.idx, .int .i64 q.val, .int .i64 q.br, .int .u16 q.tag, .int .u16 q.delay, .int .u32 q.height, .int .i64 q.dead, .int .i64 q.budget, .int .i64 q.start, .int .i64 q.fee] rfl rfl 38 _ HNW.out (by kernel_rfl) rfl (by kernel_rfl) ?_)
          clear HNW
          obtain ⟨G, hV⟩ : ∃ q, q = w7.heap.size := ⟨_, rfl⟩
          rw [← hV]
          have hz := HNR.out
          have hal := HAL.out
          clear HNR HAL
          rw [← hV] at hz hal
          generalize (w7.alloc (.cells #[.int .i64 0, .int .i64 0, .int .u32 0, .slice none 0 0, .slice none 0 0, .int .u32 0, .int .i64 0, .string ⟨#[]⟩, .int .u32 0, .int .i64 0, .int .i64 0, .int .u16 0, .int .u16 0, .int .u32 0, .int .i64 0, .int .i64 0, .int .i64 0, .int .i64 0] 38)).setRow G #[.int .i64 q.kind, .int .i64 q.num, .int .u32 q.tx.ver, .slice ba n5 bc, .slice da n6 dc, .int .u32 q.tx.lock, .int .i64 q.index, .string q.id, .int .u32 q.idx, .int .i64 q.val, .int .i64 q.br, .int .u16 q.tag, .int .u16 q.delay, .int .u32 q.height, .int .i64 q.dead, .int .i64 q.budget, .int .i64 q.start, .int .i64 q.fee] = w8 at *
          rw [hV] at hal
          have HG := Lib.hid hz
          have HB := Lib.hid (HB.out.trans (hal.mono HB.out.size))
          have HAQ := Lib.hid (HAQ.out.below hal)
          have HAG := Lib.hid (HAG.out.below hal)
          have HU := Lib.hid (stay HU.out hal)
          have HBX := Lib.hid (HBX.out.trans (hal.mono HBX.out.size))
          clear hz hal hV
          try rw [put_none_]
          have EQ := Lib.hid (show Calls Try.prog 13 #[.agg #[.int .i64 q.kind, .int .i64 q.num, .int .u32 q.tx.ver, .slice ba n5 bc, .slice da n6 dc, .int .u32 q.tx.lock, .int .i64 q.index, .string q.id, .int .u32 q.idx, .int .i64 q.val, .int .i64 q.br, .int .u16 q.tag, .int .u16 q.delay, .int .u32 q.height, .int .i64 q.dead, .int .i64 q.budget, .int .i64 q.start, .int .i64 q.fee], .agg #[.int .i64 q.kind, .int .i64 q.num, .int .u32 q.tx.ver, .slice ja n3 jc, .slice qa n4 qc, .int .u32 q.tx.lock, .int .i64 q.index, .string q.id, .int .u32 q.idx, .int .i64 q.val, .int .i64 q.br, .int .u16 q.tag, .int .u16 q.delay, .int .u32 q.height, .int .i64 q.dead, .int .i64 q.budget, .int .i64 q.start, .int .i64 q.fee]] w8 (fun e w' => e = .returned (.bool true) ∧ Below w8.heap.size w8 w') from by have h2 := recequal_any _ _ q q w8 HAG.out.at_ HAQ.out; rw [sameR_yes rfl] at h2; exact h2)
          go_wp2_with (first | (refine wpList_load_row_g 38 (.tmp 17) rfl G rfl 38 #[.int .i64 q.kind, .int .i64 q.num, .int .u32 q.tx.ver, .slice ba n5 bc, .slice da n6 dc, .int .u32 q.tx.lock, .int .i64 q.index, .string q.id, .int .u32 q.idx, .int .i64 q.val, .int .i64 q.br, .int .u16 q.tag, .int .u16 q.delay, .int .u32 q.height, .int .i64 q.dead, .int .i64 q.budget, .int .i64 q.start, .int .i64 q.fee] (0, 0) _ HG.out Try.underlying38 rfl (by kernel_rfl) (by kernel_rfl) ?_) | (refine wpList_load_row_g 38 (.tmp 16) rfl U rfl 38 #[.int .i64 q.kind, .int .i64 q.num, .int .u32 q.tx.ver, .slice ja n3 jc, .slice qa n4 qc, .int .u32 q.tx.lock, .int .i64 q.index, .string q.id, .int .u32 q.idx, .int .i64 q.val, .int .i64 q.br, .int .u16 q.tag, .int .u16 q.delay, .int .u32 q.height, .int .i64 q.dead, .int .i64 q.budget, .int .i64 q.start, .int .i64 q.fee] (0, 0) _ HU.out Try.underlying38 rfl (by kernel_rfl) (by kernel_rfl) ?_))
          refine EQ.out.mono ?_
          rintro e w9 ⟨rfl, hb⟩
          have HBX := Lib.hid (HBX.out.trans (hb.mono HBX.out.size))
          clear hb EQ
          go_wp2_with fail
          go_roundg (n - (j + 1))
          case measure => have := HGJ.out; omega
          case rel =>
            exact ⟨j + 1, rfl, by omega, by go_num, by rw [HNX.out], HBX.out⟩
        · have hjl : j = n := by omega
          have hend : (at_ : Int) = (s.size : Int) := by rw [HAT_.out, hjl, HN.out, List.take_length, ← HSA.out, data_len]
          have hend2 : ((at_ : Int) == (s.size : Int)) = true := by rw [beq_iff_eq]; exact hend
          go_wp2_with fail
          refine (wakes26_any w5).mono ?_
          rintro e w6 ⟨rfl, hb⟩
          have HB := Lib.hid (HB.out.trans (hb.mono HB.out.size))
          clear hb
          go_wp2_with fail
          go_ret
          exact ⟨rfl, HB.out⟩
end Go.Proofs.Ytaooibocknemkaa
