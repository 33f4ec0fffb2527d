/-
  What the document fixes of identities. Conditions: none.
-/
import Derived.Test.YtmcknjldimnaoaaIb
namespace Go.Proofs.Ytmcknjldimnaoaa
open Go.RowKit Go.BigFrame
set_option linter.unusedVariables false
set_option linter.unusedSimpArgs false

def g7 : PTx := grantTx 0 [⟨0, ByteArray.empty⟩]
theorem g7_check : checkOf g7 = 0 := by
  have h1 : countsOf g7 = true := by decide
  have h2 : longOf g7 = false := by decide
  have h3 : formedOf g7 = true := by decide
  have h4 : dup (ptsOf g7) = false := dup_no (by simp [ptsOf, g7, grantTx])
  rw [check_sum h1 h2 h3 h4]
  decide
theorem g7_wit : witOf g7 = false := by decide
theorem g7_len : (encL g7 false).length = 60 := by decide +kernel
theorem g7_weigh : weightE g7 = 240 := (if_pos g7_check).trans (by unfold weigh; rw [g7_wit, g7_len]; rfl)
theorem g7_size : sizeE g7 = 60 := by unfold sizeE; rw [g7_weigh]; rfl
theorem g7_id : (idE g7 false).size = 32 := by
  have h : idE g7 false = tw (encL g7 false) := if_pos g7_check
  rw [h, tw_size]
theorem g7_pay : payC g7 1 = 2 := (if_pos g7_check).trans (by decide)

set_option maxRecDepth 100000 in
set_option maxHeartbeats 2000000 in
theorem wakes7_any (w : World) : Calls Try.prog 16 #[] w (BIs true w) := by
  go_enter Try.func16, Try.ntmps16
  go_wp2_with fail
  have hz := heap_alloc_new w (.cells #[.int .i64 0, .string ⟨#[]⟩] 59)
  have hal : Below w.heap.size w (w.alloc (.cells #[.int .i64 0, .string ⟨#[]⟩] 59)) := (Below.refl _ _).alloc (Nat.le_refl _) _
  have hsl : SlAt rpOut (w.alloc (.cells #[.int .i64 0, .string ⟨#[]⟩] 59)) (.slice (some ⟨w.heap.size, 0, none⟩) 1 1) [⟨0, ByteArray.empty⟩] := by
    refine ⟨_, _, rfl, Nat.le_refl _, by rw [maxLen_eq]; decide, fun i x hi => ?_⟩
    match i, hi with
    | 0, hi =>
      obtain rfl := Option.some.inj hi
      refine ⟨w.heap.size, 0, [.int .i64 0, .string ⟨#[]⟩], rfl, rfl, fun j u hj => ?_, rfl, ⟨by decide, by decide⟩, by rw [maxLen_eq]; decide⟩
      rw [cell_at hz]
      match j, hj with
      | 0, hj => exact hj
      | 1, hj => exact hj
  have HAL := Lib.hid hal
  have HSL := Lib.hid hsl
  clear hal hsl hz
  generalize w.alloc (.cells #[.int .i64 0, .string ⟨#[]⟩] 59) = w0 at *
  refine (grant_any 0 _ _ w0 HSL.out (by decide)).mono ?_
  rintro e w1 ⟨v, rfl, hg, hb⟩
  have HB1 := Lib.hid (HAL.out.trans (hb.mono HAL.out.size))
  have htx : TxAt w1 v g7 := hg.tx
  obtain ⟨va, vo, rfl, ha, ho, -, -⟩ := id htx
  obtain ⟨a1, c1, rfl, -, -⟩ := ha.shape
  obtain ⟨a2, c2, rfl, -, -⟩ := ho.shape
  have HTX := Lib.hid htx
  have hl1 : g7.ins.length = 1 := rfl
  have hl2 : g7.outs.length = 1 := rfl
  have hl3 : g7.ver = 2 := rfl
  have hl4 : g7.lock = 0 := rfl
  rw [hl1, hl2, hl3, hl4] at HTX ⊢
  clear hb hg ha ho htx hl1 hl2 hl3 hl4 HSL HAL
  go_upto_region 2 with fail
  have hz := heap_alloc_new w1 (.cells #[.int .u32 2, .slice a1 1 c1, .slice a2 1 c2, .int .u32 0] 26)
  have hal : Below w1.heap.size w1 (w1.alloc (.cells #[.int .u32 2, .slice a1 1 c1, .slice a2 1 c2, .int .u32 0] 26)) := (Below.refl _ _).alloc (Nat.le_refl _) _
  obtain ⟨X, hX⟩ : ∃ X, X = w1.heap.size := ⟨_, rfl⟩
  have HTX := Lib.hid (HTX.out.below hal)
  have HB := Lib.hid (HB1.out.trans (hal.mono HB1.out.size))
  rw [← hX] at hz ⊢
  generalize w1.alloc (.cells #[.int .u32 2, .slice a1 1 c1, .slice a2 1 c2, .int .u32 0] 26) = w2 at *
  have d0 : w2.cell? ⟨X, 0, none⟩ = some (.int .u32 2) := cell_at hz
  have d1 : w2.cell? ⟨X, 1, none⟩ = some (.slice a1 1 c1) := cell_at hz
  have d2 : w2.cell? ⟨X, 2, none⟩ = some (.slice a2 1 c2) := cell_at hz
  have d3 : w2.cell? ⟨X, 3, none⟩ = some (.int .u32 0) := cell_at hz
  clear hz hal hX HB1
  have HQ := Lib.hid (iweight_any _ _ w2 HTX.out (by decide))
  rw [g7_weigh, g7_check] at HQ
  go_wp2_with fail
  refine (HQ.out).mono ?_
  rintro e w3 ⟨rfl, hb⟩
  replace d0 := below_cells hb _ _ d0
  replace d1 := below_cells hb _ _ d1
  replace d2 := below_cells hb _ _ d2
  replace d3 := below_cells hb _ _ d3
  have HB := Lib.hid (HB.out.trans (hb.mono HB.out.size))
  have HTX := Lib.hid (HTX.out.below hb)
  clear hb
  have HQ := Lib.hid (isize_any _ _ w3 HTX.out (by decide))
  rw [g7_size, g7_check] at HQ
  go_wp2_with fail
  refine (HQ.out).mono ?_
  rintro e w4 ⟨rfl, hb⟩
  replace d0 := below_cells hb _ _ d0
  replace d1 := below_cells hb _ _ d1
  replace d2 := below_cells hb _ _ d2
  replace d3 := below_cells hb _ _ d3
  have HB := Lib.hid (HB.out.trans (hb.mono HB.out.size))
  have HTX := Lib.hid (HTX.out.below hb)
  clear hb
  have HQ := Lib.hid (iid_any _ _ w4 HTX.out (by decide))
  have hsz := g7_id
  generalize idE g7 false = s at *
  rw [g7_check] at HQ
  go_wp2_with fail
  refine (HQ.out).mono ?_
  rintro e w5 ⟨rfl, hb⟩
  replace d0 := below_cells hb _ _ d0
  replace d1 := below_cells hb _ _ d1
  replace d2 := below_cells hb _ _ d2
  replace d3 := below_cells hb _ _ d3
  have HB := Lib.hid (HB.out.trans (hb.mono HB.out.size))
  have HTX := Lib.hid (HTX.out.below hb)
  clear hb
  have HQ := Lib.hid (ipays_any _ _ 1 w5 HTX.out (by decide) (by decide) (by decide))
  rw [(pays_err g7_pay (by decide)).1, (pays_err g7_pay (by decide)).2, g7_pay] at HQ
  go_wp2_with fail
  refine (HQ.out).mono ?_
  rintro e w6 ⟨rfl, hb⟩
  have HB := Lib.hid (HB.out.trans (hb.mono HB.out.size))
  clear hb
  go_wp2_with fail
  go_ret
  exact ⟨rfl, (HB.out.alloc HB.out.size _)⟩
end Go.Proofs.Ytmcknjldimnaoaa
