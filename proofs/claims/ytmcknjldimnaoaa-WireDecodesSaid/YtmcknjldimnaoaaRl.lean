/-
  kedgelaw06.wakes. Conditions: none.
-/
import Derived.Test.YtmcknjldimnaoaaRf
import Derived.Test.YtmcknjldimnaoaaTxQ
import Derived.Test.YtmcknjldimnaoaaTxH
import Derived.Test.YtmcknjldimnaoaaShelf
import Derived.Deep.RegionHeld3
namespace Go.Proofs.Ytmcknjldimnaoaa
open Go.RowKit Go.BigFrame
set_option linter.unusedVariables false
set_option linter.unusedSimpArgs false

theorem step_call_g {P : Program} {ops : Array Oper} {o : Oper} {a : Act} {w : World} {K : Act → World → Prop} {Q : Exit → Act → World → Prop} {E : Prop} {f : FuncId} {args : Array Value} {R : Ending → World → Prop} (hw : Region.wanted o (yielded ops a.tmps) = true)
    (hrun : (execOp a.eval o).run P w = .ok (.enter f args) w) (hc : Calls P f args w R) (hR : ∀ e w', R e w' → ∃ v, e = .returned v ∧ K (a.put o.dst v) w') :
    if Region.wanted o (yielded ops a.tmps) = true then Oper.wp P o a w K Q else E := by
  rw [if_pos hw]
  unfold Oper.wp
  rw [hrun]
  refine hc.mono ?_
  intro e w' h
  obtain ⟨v, rfl, hk⟩ := hR e w' h
  exact hk
/-- What a transaction's numbers may be. -/
theorem tx_nums {w : World} {v : Value} {t : PTx} (h : TxAt w v t) : t.ver < 4294967296 ∧ t.lock < 4294967296 ∧ ∀ x ∈ t.ins, x.idx < 4294967296 ∧ x.seq < 4294967296 := by
  obtain ⟨va, vo, rfl, h1, -, h3, h4⟩ := h
  refine ⟨h3, h4, fun x hx => ?_⟩
  obtain ⟨i, hi, rfl⟩ := List.getElem_of_mem hx
  obtain ⟨a, c, rfl, -, -⟩ := h1.shape
  obtain ⟨b, o, y, wv, -, hy, h5, h6, -⟩ := h1.inp hi
  rw [List.getElem?_eq_getElem hi] at hy
  obtain rfl := Option.some.inj hy
  exact ⟨h6, h5⟩
theorem okP_of {t : PTx} (h : checkOf t = 0) (hn : t.ver < 4294967296 ∧ t.lock < 4294967296 ∧ ∀ x ∈ t.ins, x.idx < 4294967296 ∧ x.seq < 4294967296) : OkP t := by
  have hw := whole_of h
  have he := enc_of hw
  obtain ⟨hc, -⟩ := counts_parts hw.counts
  exact ⟨hn.1, hn.2.1, ⟨hc.1, hc.2.1⟩, ⟨hc.2.2.1, hc.2.2.2⟩, fun x hx => ⟨⟨(he.ids x hx).1, hn.2.2 x hx⟩, ⟨Nat.zero_le _, (he.ids x hx).2.1⟩, (he.ids x hx).2.2⟩, fun x hx => he.vals x hx⟩

def g6 : PTx := grantTx 0 [⟨0, ByteArray.empty⟩]
theorem g6_check : checkOf g6 = 0 := by
  have h1 : countsOf g6 = true := by decide
  have h2 : longOf g6 = false := by decide
  have h3 : formedOf g6 = true := by decide
  have h4 : dup (ptsOf g6) = false := dup_no (by simp [ptsOf, g6, grantTx])
  rw [check_sum h1 h2 h3 h4]
  decide
theorem g6_wit : witOf g6 = false := by decide
def g6B : List UInt8 := [2, 0, 0, 0, 1] ++ List.replicate 32 0 ++ [255, 255, 255, 255, 0, 255, 255, 255, 255, 1] ++ List.replicate 13 0
theorem g6_enc : encL g6 false = g6B := by decide +kernel
theorem g6_ok : OkP g6 := okP_of g6_check ⟨by decide, by decide, by decide⟩
theorem rep_zero (n : Nat) : Lib.repeatL (ByteArray.mk #[0]).data.toList n = List.replicate n 0 := by
  induction n with
  | zero => rfl
  | succ n ih => 
    have : Lib.repeatL (ByteArray.mk #[0]).data.toList (n + 1) = (ByteArray.mk #[0]).data.toList ++ Lib.repeatL (ByteArray.mk #[0]).data.toList n := rfl
    rw [this, ih]
    rfl
theorem zeros6 (c : Nat) (w : World) (h2 : 2 ≤ c) (hc : c ≤ 1000) : Calls Try.prog 52 #[.string ⟨#[0]⟩, .int .i64 c] w fun e w' => e = .returned (.string (bL (List.replicate c 0))) ∧ Below w.heap.size w w' := by
  have h := Try.strings_Repeat_main (ByteArray.mk #[0]) c w h2 (by omega) (by rw [show (ByteArray.mk #[0]).size = 1 from rfl]; omega) (by decide)
  rw [rep_zero] at h
  exact h

set_option maxRecDepth 100000 in
set_option maxHeartbeats 4000000 in
theorem wakes6_any (w : World) : Calls Try.prog 29 #[] w (BIs true w) := by
  obtain ⟨s, hs⟩ : ∃ s, s = bL g6B := ⟨_, rfl⟩
  have hsz : s.size = 60 := by rw [hs, bL_size]; rfl
  have HS := Lib.hid hs
  have henc : encE g6 (witOf g6) = s := by rw [hs, ← g6_enc]; unfold encE; rw [if_pos g6_check, g6_wit]
  have hd1 : decZ s.data.toList = (g6, 60, 0) := by
    have h := dec_back g6_ok g6_check
    rw [g6_wit, g6_enc] at h
    rw [hs, bL_list, h]
    rfl
  have hd2 : ∀ m : List UInt8, m ≠ [] → decZ (g6B ++ m) = (noTx, 60, 4) := fun m hm => by
    have h := dec_more g6_ok hm
    rw [g6_wit, g6_enc] at h
    exact h
  have hd3 : decZ (s ++ (⟨#[120]⟩ : ByteArray)).data.toList = (noTx, 60, 4) := by
    have e : (s ++ (⟨#[120]⟩ : ByteArray)).data.toList = g6B ++ [120] := by rw [hs]; simp [bL]
    rw [e]
    exact hd2 [120] (by simp)
  have HD1 := Lib.hid (fun y => decode_any s y (by omega))
  rw [hd1] at HD1
  have HD3 := Lib.hid (fun y => decode_any (s ++ (⟨#[120]⟩ : ByteArray)) y (by rw [ByteArray.size_append, hsz, show (⟨#[120]⟩ : ByteArray).size = 1 from rfl]; decide))
  rw [hd3] at HD3
  have HEN := Lib.hid henc
  have HSZ := Lib.hid hsz
  have hsl60 : s.size ≤ 60 := by omega
  have q120 : (⟨#[120]⟩ : ByteArray).size = 1 := rfl
  have q5 : (⟨#[2, 0, 0, 0, 1]⟩ : ByteArray).size = 5 := rfl
  have q10 : (⟨#[255, 255, 255, 255, 0, 255, 255, 255, 255, 1]⟩ : ByteArray).size = 10 := rfl
  clear henc hd1 hd2 hd3 hs hsz
  go_enter Try.func29, Try.ntmps29
  go_wp2_with fail
  have hz := heap_alloc_new w (.cells #[.int .i64 0, .string ⟨#[]⟩] 59)
  have hal : Below w.heap.size w (w.alloc (.cells #[.int .i64 0, .string ⟨#[]⟩] 59)) := (Below.refl _ _).alloc (Nat.le_refl _) _
  have hsl : SlAt rpOut (w.alloc (.cells #[.int .i64 0, .string ⟨#[]⟩] 59)) (.slice (some ⟨w.heap.size, 0, none⟩) 1 1) [⟨0, ByteArray.empty⟩] := by
    refine ⟨_, _, rfl, Nat.le_refl _, by rw [maxLen_eq]; decide, fun i x hi => ?_⟩
    match i, hi with
    | 0, hi =>
      obtain rfl := Option.some.inj hi
      refine ⟨w.heap.size, 0, [.int .i64 0, .string ⟨#[]⟩], rfl, rfl, fun j u hj => ?_, rfl, ⟨by decide, by decide⟩, by rw [maxLen_eq]; decide⟩
      rw [cell_at hz]
      match j, hj with
      | 0, hj => exact hj
      | 1, hj => exact hj
  have HAL := Lib.hid hal
  have HSL := Lib.hid hsl
  clear hal hsl hz
  generalize w.alloc (.cells #[.int .i64 0, .string ⟨#[]⟩] 59) = w0 at *
  refine (grant_any 0 _ _ w0 HSL.out (by decide)).mono ?_
  rintro e w1 ⟨v, rfl, hg, hb⟩
  have HB := Lib.hid (HAL.out.trans (hb.mono HAL.out.size))
  have htx : TxAt w1 v g6 := hg.tx
  obtain ⟨va, vo, rfl, ha, ho, -, -⟩ := id htx
  obtain ⟨a1, c1, rfl, -, -⟩ := ha.shape
  obtain ⟨a2, c2, rfl, -, -⟩ := ho.shape
  have HQ := Lib.hid (wenc_any _ _ w1 htx (by decide))
  rw [HEN.out, g6_check] at HQ
  clear hb hg ha ho htx HSL HAL
  go_wp2_with fail
  refine HQ.out.mono ?_
  rintro e w2 ⟨rfl, hb⟩
  have HB := Lib.hid (HB.out.trans (hb.mono HB.out.size))
  clear hb HQ
  go_wp2_with fail
  refine (HD1.out w2).mono ?_
  rintro e w3 ⟨v3, rfl, hown, hb⟩
  have htx : TxAt w3 v3 g6 := hown.tx
  obtain ⟨va, vo, rfl, ha, ho, -, -⟩ := id htx
  obtain ⟨a3, c3, rfl, -, -⟩ := ha.shape
  obtain ⟨a4, c4, rfl, -, -⟩ := ho.shape
  have HB := Lib.hid (HB.out.trans (hb.mono HB.out.size))
  have hl1 : g6.ins.length = 1 := rfl
  have hl2 : g6.outs.length = 1 := rfl
  have hl3 : g6.ver = 2 := rfl
  have hl4 : g6.lock = 0 := rfl
  have HT3 := Lib.hid htx
  rw [hl1, hl2, hl3, hl4] at HT3 ⊢
  clear hb hown ha ho htx HD1 hl1 hl2 hl3 hl4
  go_upto_region 3 with fail
  have hz := heap_alloc_new w3 (.cells #[.int .u32 2, .slice a3 1 c3, .slice a4 1 c4, .int .u32 0] 26)
  have hal : Below w3.heap.size w3 (w3.alloc (.cells #[.int .u32 2, .slice a3 1 c3, .slice a4 1 c4, .int .u32 0] 26)) := (Below.refl _ _).alloc (Nat.le_refl _) _
  obtain ⟨Y3, hY3⟩ : ∃ q, q = w3.heap.size := ⟨_, rfl⟩
  rw [← hY3] at hz ⊢
  generalize w3.alloc (.cells #[.int .u32 2, .slice a3 1 c3, .slice a4 1 c4, .int .u32 0] 26) = w4 at *
  have u0 : w4.cell? ⟨Y3, 0, none⟩ = some (.int .u32 2) := cell_at hz
  have u1 : w4.cell? ⟨Y3, 1, none⟩ = some (.slice a3 1 c3) := cell_at hz
  have u2 : w4.cell? ⟨Y3, 2, none⟩ = some (.slice a4 1 c4) := cell_at hz
  have u3 : w4.cell? ⟨Y3, 3, none⟩ = some (.int .u32 0) := cell_at hz
  have HT3 := Lib.hid (HT3.out.below hal)
  have HB := Lib.hid (HB.out.trans (hal.mono HB.out.size))
  clear hz hal hY3
  go_wp2_with fail
  refine (HD3.out w4).mono ?_
  rintro e w5 ⟨v5, rfl, hown, hb⟩
  obtain ⟨va, vo, rfl, ha, ho, -, -⟩ := hown.tx
  obtain ⟨a5, c5, rfl, -, -⟩ := ha.shape
  obtain ⟨a6, c6, rfl, -, -⟩ := ho.shape
  have HT3 := Lib.hid (HT3.out.below hb)
  have HB := Lib.hid (HB.out.trans (hb.mono HB.out.size))
  replace u0 := below_cells hb _ _ u0
  replace u1 := below_cells hb _ _ u1
  replace u2 := below_cells hb _ _ u2
  replace u3 := below_cells hb _ _ u3
  clear hb hown ha ho HD3
  go_upto_region 4 with fail
  have hz := heap_alloc_new w5 (.cells #[.int .u32 noTx.ver, .slice a5 noTx.ins.length c5, .slice a6 noTx.outs.length c6, .int .u32 noTx.lock] 26)
  have hal : Below w5.heap.size w5 (w5.alloc (.cells #[.int .u32 noTx.ver, .slice a5 noTx.ins.length c5, .slice a6 noTx.outs.length c6, .int .u32 noTx.lock] 26)) := (Below.refl _ _).alloc (Nat.le_refl _) _
  obtain ⟨Y6, hY6⟩ : ∃ q, q = w5.heap.size := ⟨_, rfl⟩
  rw [← hY6] at hz ⊢
  generalize w5.alloc (.cells #[.int .u32 noTx.ver, .slice a5 noTx.ins.length c5, .slice a6 noTx.outs.length c6, .int .u32 noTx.lock] 26) = w6 at *
  have hb := hal
  have HT3 := Lib.hid (HT3.out.below hb)
  have HB := Lib.hid (HB.out.trans (hb.mono HB.out.size))
  replace u0 := below_cells hb _ _ u0
  replace u1 := below_cells hb _ _ u1
  replace u2 := below_cells hb _ _ u2
  replace u3 := below_cells hb _ _ u3
  clear hz hal hY6 hb
  go_wp2_with fail
  refine (zeros6 32 w6 (by decide) (by decide)).mono ?_
  rintro e w7 ⟨rfl, hb⟩
  have HT3 := Lib.hid (HT3.out.below hb)
  have HB := Lib.hid (HB.out.trans (hb.mono HB.out.size))
  replace u0 := below_cells hb _ _ u0
  replace u1 := below_cells hb _ _ u1
  replace u2 := below_cells hb _ _ u2
  replace u3 := below_cells hb _ _ u3
  obtain ⟨r1, hr1⟩ : ∃ r, r = bL (List.replicate 32 0) := ⟨_, rfl⟩
  rw [← hr1]
  have h1s : r1.size = 32 := by rw [hr1, bL_size]; rfl
  have HR1 := Lib.hid hr1
  clear hb hr1
  go_wp2_with fail
  refine (zeros6 13 w7 (by decide) (by decide)).mono ?_
  rintro e w8 ⟨rfl, hb⟩
  have HT3 := Lib.hid (HT3.out.below hb)
  have HB := Lib.hid (HB.out.trans (hb.mono HB.out.size))
  replace u0 := below_cells hb _ _ u0
  replace u1 := below_cells hb _ _ u1
  replace u2 := below_cells hb _ _ u2
  replace u3 := below_cells hb _ _ u3
  obtain ⟨r2, hr2⟩ : ∃ r, r = bL (List.replicate 13 0) := ⟨_, rfl⟩
  rw [← hr2]
  have h2s : r2.size = 13 := by rw [hr2, bL_size]; rfl
  have HR2 := Lib.hid hr2
  clear hb hr2
  go_upto_region 5 with fail
  have hw : (⟨#[2, 0, 0, 0, 1]⟩ : ByteArray) ++ r1 ++ (⟨#[255, 255, 255, 255, 0, 255, 255, 255, 255, 1]⟩ : ByteArray) ++ r2 = s := by
    rw [HR1.out, HR2.out, HS.out]
    apply ByteArray.ext
    apply Array.ext'
    rfl
  rw [hw]
  have hszE := HSZ.out
  have hz := heap_alloc_new w8 (.cells #[.int .i64 0, .string ⟨#[]⟩] 59)
  have hal : Below w8.heap.size w8 (w8.alloc (.cells #[.int .i64 0, .string ⟨#[]⟩] 59)) := (Below.refl _ _).alloc (Nat.le_refl _) _
  have hsl : SlAt rpOut (w8.alloc (.cells #[.int .i64 0, .string ⟨#[]⟩] 59)) (.slice (some ⟨w8.heap.size, 0, none⟩) 1 1) [⟨0, ByteArray.empty⟩] := by
    refine ⟨_, _, rfl, Nat.le_refl _, by rw [maxLen_eq]; decide, fun i x hi => ?_⟩
    match i, hi with
    | 0, hi =>
      obtain rfl := Option.some.inj hi
      refine ⟨w8.heap.size, 0, [.int .i64 0, .string ⟨#[]⟩], rfl, rfl, fun j u hj => ?_, rfl, ⟨by decide, by decide⟩, by rw [maxLen_eq]; decide⟩
      rw [cell_at hz]
      match j, hj with
      | 0, hj => exact hj
      | 1, hj => exact hj
  have HAL := Lib.hid hal
  have HSL := Lib.hid hsl
  have hal := fun o => cell_over u0 o
  have hal1 := fun o => cell_over u1 o
  have hal2 := fun o => cell_over u2 o
  have hal3 := fun o => cell_over u3 o
  have HGR := Lib.hid (grant_any 0 _ _ (w8.alloc (.cells #[.int .i64 0, .string ⟨#[]⟩] 59)).drew (show SlAt rpOut (w8.alloc (.cells #[.int .i64 0, .string ⟨#[]⟩] 59)).drew (.slice (some ⟨w8.heap.size, 0, none⟩) 1 1) [⟨0, ByteArray.empty⟩] from HSL.out) (by decide))
  clear hsl hz hw h1s h2s
  have HGS := Lib.hid (fun (wg : World) (vg : Value) (hg : TxAt wg vg g6) (hbg : Below (w8.alloc (.cells #[.int .i64 0, .string ⟨#[]⟩] 59)).drew.heap.size (w8.alloc (.cells #[.int .i64 0, .string ⟨#[]⟩] 59)).drew wg) =>
    have h1 := same_any _ _ g6 g6 wg (HT3.out.below (HAL.out.drew.trans (hbg.mono HAL.out.drew.size))) hg
    have h2 := same_yes (t := g6) (u := g6) rfl
    show Calls Try.prog 30 _ wg (BIs true wg) from h2 ▸ h1)
  go_region_held3 (fun w' => w'.cell? ⟨Y3, 0, none⟩ = some (.int .u32 2) ∧ w'.cell? ⟨Y3, 1, none⟩ = some (.slice a3 1 c3) ∧ w'.cell? ⟨Y3, 2, none⟩ = some (.slice a4 1 c4) ∧ w'.cell? ⟨Y3, 3, none⟩ = some (.int .u32 0))
    (first | exact ⟨u0, u1, u2, u3⟩ | exact ⟨hal _, hal1 _, hal2 _, hal3 _⟩ | exact ⟨below_cells hbg _ _ (hal _), below_cells hbg _ _ (hal1 _), below_cells hbg _ _ (hal2 _), below_cells hbg _ _ (hal3 _)⟩ | exact ⟨below_cells hbs _ _ (below_cells hbg _ _ (hal _)), below_cells hbs _ _ (below_cells hbg _ _ (hal1 _)), below_cells hbs _ _ (below_cells hbg _ _ (hal2 _)), below_cells hbs _ _ (below_cells hbg _ _ (hal3 _))⟩ | go_keep)
    (first
      | (go_at_call 38; refine HGR.out.mono ?_; rintro e wg ⟨vg, rfl, hg, hbg⟩; have hgt : TxAt wg vg g6 := hg.tx)
      | (go_at_call 30; refine (HGS.out wg vg hgt hbg).mono ?_; rintro e ws ⟨rfl, hbs⟩))
  have hb1 := HAL.out.drew.trans (hbg.mono HAL.out.drew.size)
  have hb2 := hb1.trans (hbs.mono hb1.size)
  have HBB := Lib.hid (HB.out.trans (hb2.mono HB.out.size))
  clear hb1 hb2 hbg hbs hgt hg
  go_wp2_with fail
  go_ret
  exact ⟨rfl, HBB.out⟩
end Go.Proofs.Ytmcknjldimnaoaa
