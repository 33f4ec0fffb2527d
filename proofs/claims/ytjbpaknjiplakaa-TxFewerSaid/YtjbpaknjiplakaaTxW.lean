/-
  What the document fixes of transactions. Conditions: none.
-/
import Derived.Test.YtjbpaknjiplakaaTxH
namespace Go.Proofs.Ytjbpaknjiplakaa
open Go.RowKit Go.BigFrame
set_option linter.unusedVariables false
set_option linter.unusedSimpArgs false

theorem w_check1 : checkOf (grantTx 5 [⟨0, ByteArray.empty⟩]) = 0 := by
  have h1 : countsOf (grantTx 5 [⟨0, ByteArray.empty⟩]) = true := by decide
  have h2 : longOf (grantTx 5 [⟨0, ByteArray.empty⟩]) = false := by decide
  have h3 : formedOf (grantTx 5 [⟨0, ByteArray.empty⟩]) = true := by decide
  have h4 : dup (ptsOf (grantTx 5 [⟨0, ByteArray.empty⟩])) = false := dup_no (by simp [ptsOf, grantTx])
  rw [check_sum h1 h2 h3 h4]
  decide
theorem w_check2 : checkOf (grantTx 5 []) = 6 := check_counts (by decide)
theorem w_base : baseOf (grantTx 5 [⟨0, ByteArray.empty⟩]) = true := by decide
theorem w_less : lessPt (⟨#[97]⟩, 0) (⟨#[97]⟩, 1) = true := by decide

set_option maxRecDepth 100000 in
set_option maxHeartbeats 1000000 in
theorem wakes_any (w : World) : Calls Try.prog 17 #[] w (BIs true w) := by
  go_enter Try.func17, Try.ntmps17
  go_wp2_with fail
  have hz := heap_alloc_new w (.cells #[.int .i64 0, .string ⟨#[]⟩] 52)
  have hal : Below w.heap.size w (w.alloc (.cells #[.int .i64 0, .string ⟨#[]⟩] 52)) := (Below.refl _ _).alloc (Nat.le_refl _) _
  have hsl : SlAt rpOut (w.alloc (.cells #[.int .i64 0, .string ⟨#[]⟩] 52)) (.slice (some ⟨w.heap.size, 0, none⟩) 1 1) [⟨0, ByteArray.empty⟩] := by
    refine ⟨_, _, rfl, Nat.le_refl _, by rw [maxLen_eq]; decide, fun i x hi => ?_⟩
    match i, hi with
    | 0, hi =>
      obtain rfl := Option.some.inj hi
      refine ⟨w.heap.size, 0, [.int .i64 0, .string ⟨#[]⟩], rfl, rfl, fun j u hj => ?_, rfl, ⟨by decide, by decide⟩, by rw [maxLen_eq]; decide⟩
      rw [cell_at hz]
      match j, hj with
      | 0, hj => exact hj
      | 1, hj => exact hj
  have HAL := Lib.hid hal
  have HSL := Lib.hid hsl
  clear hal hsl hz
  generalize w.alloc (.cells #[.int .i64 0, .string ⟨#[]⟩] 52) = w0 at *
  refine (grant_any 5 _ _ w0 HSL.out (by decide)).mono ?_
  rintro e w1 ⟨v, rfl, hg, hb⟩
  have HB1 := Lib.hid (HAL.out.trans (hb.mono HAL.out.size))
  have htx := hg.tx
  obtain ⟨va, vo, rfl, ha, ho, -, -⟩ := id htx
  obtain ⟨a1, c1, rfl, -, -⟩ := ha.shape
  obtain ⟨a2, c2, rfl, -, -⟩ := ho.shape
  have HTX := Lib.hid htx
  have hl1 : (grantTx 5 [⟨0, ByteArray.empty⟩]).ins.length = 1 := rfl
  have hl2 : (grantTx 5 [⟨0, ByteArray.empty⟩]).outs.length = 1 := rfl
  have hl3 : (grantTx 5 [⟨0, ByteArray.empty⟩]).ver = 2 := rfl
  have hl4 : (grantTx 5 [⟨0, ByteArray.empty⟩]).lock = 5 := rfl
  rw [hl1, hl2, hl3, hl4] at HTX ⊢
  clear hb hg ha ho htx hl1 hl2 hl3 hl4 HSL HAL
  go_upto_region 2 with fail
  have hz := heap_alloc_new w1 (.cells #[.int .u32 2, .slice a1 1 c1, .slice a2 1 c2, .int .u32 5] 26)
  have hal : Below w1.heap.size w1 (w1.alloc (.cells #[.int .u32 2, .slice a1 1 c1, .slice a2 1 c2, .int .u32 5] 26)) := (Below.refl _ _).alloc (Nat.le_refl _) _
  obtain ⟨X, hX⟩ : ∃ X, X = w1.heap.size := ⟨_, rfl⟩
  have HTX2 := Lib.hid (HTX.out.below hal)
  have HB2 := Lib.hid (HB1.out.trans (hal.mono HB1.out.size))
  rw [← hX] at hz ⊢
  generalize w1.alloc (.cells #[.int .u32 2, .slice a1 1 c1, .slice a2 1 c2, .int .u32 5] 26) = w2 at *
  have c0 : w2.cell? ⟨X, 0, none⟩ = some (.int .u32 2) := cell_at hz
  have c1' : w2.cell? ⟨X, 1, none⟩ = some (.slice a1 1 c1) := cell_at hz
  have c2' : w2.cell? ⟨X, 2, none⟩ = some (.slice a2 1 c2) := cell_at hz
  have c3 : w2.cell? ⟨X, 3, none⟩ = some (.int .u32 5) := cell_at hz
  clear hz hal hX HTX HB1
  go_wp2_with fail
  refine (check_any _ _ w2 HTX2.out (by decide)).mono ?_
  rw [w_check1]
  rintro e w3 ⟨rfl, hb⟩
  have HTX3 := Lib.hid (HTX2.out.below hb)
  have HB3 := Lib.hid (HB2.out.trans (hb.mono HB2.out.size))
  replace c0 := below_cells hb _ _ c0
  replace c1' := below_cells hb _ _ c1'
  replace c2' := below_cells hb _ _ c2'
  replace c3 := below_cells hb _ _ c3
  clear hb HTX2 HB2
  go_wp2_with fail
  refine (base_tx _ _ w3 HTX3.out).mono ?_
  rw [w_base]
  rintro e w4 ⟨rfl, hb⟩
  have HB4 := Lib.hid (HB3.out.trans (hb.mono HB3.out.size))
  replace c3 := below_cells hb _ _ c3
  clear hb HTX3 HB3 c0 c1' c2'
  go_wp2_with fail
  refine (grant_any 5 _ [] w4 sl_nil (by decide)).mono ?_
  rintro e w5 ⟨v, rfl, hg, hb⟩
  have HTX5 := Lib.hid hg.tx
  have HB5 := Lib.hid (HB4.out.trans (hb.mono HB4.out.size))
  clear hb hg
  go_wp2_with fail
  refine (check_any _ _ w5 HTX5.out (by decide)).mono ?_
  rw [w_check2]
  rintro e w6 ⟨rfl, hb⟩
  have HB6 := Lib.hid (HB5.out.trans (hb.mono HB5.out.size))
  clear hb
  go_wp2_with fail
  refine (less_any (⟨#[97]⟩, 0) (⟨#[97]⟩, 1) w6).mono ?_
  rw [w_less]
  rintro e w7 ⟨rfl, hb⟩
  have HB7 := Lib.hid (HB6.out.trans (hb.mono HB6.out.size))
  clear hb
  go_wp2_with fail
  go_ret
  exact ⟨rfl, HB7.out⟩
end Go.Proofs.Ytjbpaknjiplakaa
