/-
  wire.Decode. Conditions: the text is not too long.
-/
import Derived.Test.YtmcknjldimnaoaaRe
namespace Go.Proofs.Ytmcknjldimnaoaa
open Go.RowKit Go.BigFrame
set_option linter.unusedVariables false
set_option linter.unusedSimpArgs false

/-- It returns this transaction, of the call's own, this place and this error. -/
def DecIs (r : PTx × Nat × Int) (w : World) (e : Ending) (w' : World) : Prop := ∃ v, e = .returned (.tuple #[v, .int .i64 r.2.1, .int .i64 r.2.2]) ∧ TxOwn w.heap.size w' v r.1 ∧ Below w.heap.size w w'
theorem outs_le (l : List UInt8) (z : Zst) : (txOf (allZ l z).2).outs.length ≤ 256 := by
  have h : ∀ z, (outsZ l z).2.length ≤ 256 := fun z => by
    show (repZ outZ (cntZ 1 256 6 l z).2 l (cntZ 1 256 6 l z).1).2.length ≤ 256
    rw [repZ_len]
    exact cntZ_le 1 256 6 l z
  exact h _
theorem noTx_own (base : Nat) (w : World) : TxOwn base w (.agg #[.int .u32 (0 : Nat), .slice none 0 0, .slice none 0 0, .int .u32 (0 : Nat)]) noTx :=
  ⟨⟨_, _, [], rfl, rfl, insOwn_nil _ _, outsOwn_nil _ _, fun b h => by cases h⟩, by decide, by decide⟩

set_option maxRecDepth 100000 in
set_option maxHeartbeats 4000000 in
theorem decode_any (s : ByteArray) (w : World) (hs : s.size ≤ 9223372036854775000) : Calls Try.prog 27 #[.string s] w (DecIs (decZ s.data.toList) w) := by
  obtain ⟨t, ht⟩ : ∃ t, t = txOf (allZ s.data.toList ⟨0, 0⟩).2 := ⟨_, rfl⟩
  obtain ⟨z, hz⟩ : ∃ z, z = endZ s.data.toList (allZ s.data.toList ⟨0, 0⟩).1 := ⟨_, rfl⟩
  have hdec : decZ s.data.toList = if z.err = 0 then (if checkOf t = 0 then (t, s.data.toList.length, 0) else (noTx, z.at_, checkOf t)) else (noTx, z.at_, z.err) := by rw [ht, hz]; rfl
  rw [data_len] at hdec
  obtain ⟨r, hr⟩ : ∃ r, r = decZ s.data.toList := ⟨_, rfl⟩
  rw [← hr] at hdec ⊢
  have hol : t.outs.length ≤ 1000 := by have := outs_le s.data.toList ⟨0, 0⟩; rw [ht]; omega
  have q : ∀ y b, RdAt b s ⟨0, 0⟩ y → _ := fun y b hy => read_any b s y hy hs
  simp only [← ht, ← hz] at q
  have HQ := Lib.hid q
  have HD := Lib.hid hdec
  have HOL := Lib.hid hol
  clear q hdec hol ht hz hr
  go_enter Try.func27, Try.ntmps27
  go_upto_region 1 with fail
  have hz := heap_alloc_new w (.cells #[.int .u32 0, .slice none 0 0, .slice none 0 0, .int .u32 0] 26)
  have hal : Below w.heap.size w (w.alloc (.cells #[.int .u32 0, .slice none 0 0, .slice none 0 0, .int .u32 0] 26)) := (Below.refl _ _).alloc (Nat.le_refl _) _
  obtain ⟨X, hX⟩ : ∃ q, q = w.heap.size := ⟨_, rfl⟩
  rw [← hX] at hz ⊢
  generalize w.alloc (.cells #[.int .u32 0, .slice none 0 0, .slice none 0 0, .int .u32 0] 26) = w0 at *
  have HX := Lib.hid hz
  have HB := Lib.hid hal
  have HXN := Lib.hid hX
  clear hz hal hX
  go_upto_region 2 with fail
  have hz := heap_alloc_new w0 (.cells #[.string s, .int .i64 0, .int .i64 0] 73)
  have hal : Below w0.heap.size w0 (w0.alloc (.cells #[.string s, .int .i64 0, .int .i64 0] 73)) := (Below.refl _ _).alloc (Nat.le_refl _) _
  obtain ⟨b, hb⟩ : ∃ q, q = w0.heap.size := ⟨_, rfl⟩
  rw [← hb] at hz ⊢
  generalize w0.alloc (.cells #[.string s, .int .i64 0, .int .i64 0] 73) = w1 at *
  have HR := Lib.hid (show RdAt b s ⟨0, 0⟩ w1 from hz)
  have HN := Lib.hid (show X = w.heap.size ∧ X < b from ⟨HXN.out, by rw [hb]; exact (Array.getElem?_eq_some_iff.1 HX.out).1⟩)
  have HX := Lib.hid ((hal.block X (Array.getElem?_eq_some_iff.1 HX.out).1).trans HX.out)
  have HB := Lib.hid (HB.out.trans (hal.mono HB.out.size))
  clear hz hal hb
  go_wp2_with fail
  refine (HQ.out w1 b HR.out).mono ?_
  rintro e w2 ⟨v, rfl, hown, ha, hf⟩
  obtain ⟨⟨vi, vo, ps, rfl, hp, hi, ho, hap⟩, hv1, hv2⟩ := id hown
  obtain ⟨ai, ci, e1, -, -⟩ := ownsRow_shape hi.row
  obtain ⟨ao, co, e2, -, -⟩ := ownsRow_shape ho.row
  subst e1
  subst e2
  have hb1 : Below w.heap.size w w2 := by
    refine ⟨hf.os.trans HB.out.os, hf.tape.trans HB.out.tape, hf.output.trans HB.out.output, Nat.le_trans HB.out.size hf.size, fun k hk => ?_⟩
    rw [hf.block k (Nat.lt_of_lt_of_le hk HB.out.size) (by have := HN.out; simp; omega)]
    exact HB.out.block k hk
  have HX := Lib.hid (hf.heap HX.out (by have := HN.out; simp; omega))
  have HO := Lib.hid (hown.base (base' := b) (Nat.le_of_lt HR.out.lt))
  have HNB := Lib.hid (show TxOwn w1.heap.size w2 _ t from hown)
  have HB := Lib.hid hb1
  have HBW := Lib.hid (show b < w1.heap.size from HR.out.lt)
  have HFS := Lib.hid hf.size
  have HR := Lib.hid ha
  clear hown hp hi ho hap hv1 hv2 ha hf hb1 HQ
  go_upto_region 3 with fail
  have hz := heap_alloc_new w2 (.cells #[.int .u32 t.ver, .slice ai ps.length ci, .slice ao t.outs.length co, .int .u32 t.lock] 26)
  have hal : Below w2.heap.size w2 (w2.alloc (.cells #[.int .u32 t.ver, .slice ai ps.length ci, .slice ao t.outs.length co, .int .u32 t.lock] 26)) := (Below.refl _ _).alloc (Nat.le_refl _) _
  obtain ⟨Y, hY⟩ : ∃ q, q = w2.heap.size := ⟨_, rfl⟩
  rw [← hY] at hz ⊢
  generalize w2.alloc (.cells #[.int .u32 t.ver, .slice ai ps.length ci, .slice ao t.outs.length co, .int .u32 t.lock] 26) = w3 at *
  have HX := Lib.hid ((hal.block X (Array.getElem?_eq_some_iff.1 HX.out).1).trans HX.out)
  have HR := Lib.hid (HR.out.below hal)
  have HY := Lib.hid hz
  have HNB := Lib.hid (HNB.out.below hal)
  have HB := Lib.hid (HB.out.trans (hal.mono HB.out.size))
  have HYN := Lib.hid (show b < Y from by rw [hY]; exact Nat.lt_of_lt_of_le HBW.out HFS.out)
  clear hz hal hY
  by_cases hze : z.err = 0
  · have hdec := HD.out.trans (if_pos hze)
    have d2 : w3.cell? ⟨b, 2, none⟩ = some (.int .i64 z.err) := cell_at HR.out
    rw [hze] at d2
    have y0 : w3.cell? ⟨Y, 0, none⟩ = some (.int .u32 t.ver) := cell_at HY.out
    have y1 : w3.cell? ⟨Y, 1, none⟩ = some (.slice ai ps.length ci) := cell_at HY.out
    have y2 : w3.cell? ⟨Y, 2, none⟩ = some (.slice ao t.outs.length co) := cell_at HY.out
    have y3 : w3.cell? ⟨Y, 3, none⟩ = some (.int .u32 t.lock) := cell_at HY.out
    have HCK := Lib.hid (check_any _ t w3 HNB.out.tx HOL.out)
    clear hze
    by_cases hc : checkOf t = 0
    · have HDE := Lib.hid (hdec.trans (if_pos hc))
      rw [hc] at HCK
      clear hc hdec
      go_wp2_with fail
      refine HCK.out.mono ?_
      rintro e w4 ⟨rfl, hb⟩
      replace d2 := below_cells hb _ _ d2
      replace y0 := below_cells hb _ _ y0
      replace y1 := below_cells hb _ _ y1
      replace y2 := below_cells hb _ _ y2
      replace y3 := below_cells hb _ _ y3
      have HX := Lib.hid ((hb.block X (Array.getElem?_eq_some_iff.1 HX.out).1).trans HX.out)
      have HR := Lib.hid (HR.out.below hb)
      have HY := Lib.hid ((hb.block Y (Array.getElem?_eq_some_iff.1 HY.out).1).trans HY.out)
      have HNB := Lib.hid (HNB.out.below hb)
      have HB := Lib.hid (HB.out.trans (hb.mono HB.out.size))
      have g2 : w4.frozen? ⟨b, 2, none⟩ = false := free_at HR.out
      clear hb
      have hxb : X ≠ b := by have := HN.out; omega
      have hyb : Y ≠ b := by have := HYN.out; omega
      have HX := Lib.hid ((Below.heap_setCell w4 ⟨b, 2, none⟩ (.int .i64 0) X hxb).trans HX.out)
      have HY := Lib.hid ((Below.heap_setCell w4 ⟨b, 2, none⟩ (.int .i64 0) Y hyb).trans HY.out)
      have HR := Lib.hid (HR.out.setErr 0)
      have HNB := Lib.hid (HNB.out.kept' (w' := w4.setCell ⟨b, 2, none⟩ (.int .i64 0)) fun k hk _ => Below.heap_setCell _ _ _ _ (by have := HBW.out; dsimp only; omega))
      have HB := Lib.hid (HB.out.setCell (p := ⟨b, 2, none⟩) (by have := HN.out; dsimp only; omega) (.int .i64 0))
      go_upto_region 5 with fail
      generalize w4.setCell ⟨b, 2, none⟩ (.int .i64 0) = w5 at *
      clear d2 y0 y1 y2 y3 g2 hxb hyb
      have d2 : w5.cell? ⟨b, 2, none⟩ = some (.int .i64 0) := cell_at HR.out
      have y0 : w5.cell? ⟨Y, 0, none⟩ = some (.int .u32 t.ver) := cell_at HY.out
      have y1 : w5.cell? ⟨Y, 1, none⟩ = some (.slice ai ps.length ci) := cell_at HY.out
      have y2 : w5.cell? ⟨Y, 2, none⟩ = some (.slice ao t.outs.length co) := cell_at HY.out
      have y3 : w5.cell? ⟨Y, 3, none⟩ = some (.int .u32 t.lock) := cell_at HY.out
      have x0 : w5.cell? ⟨X, 0, none⟩ = some (.int .u32 0) := cell_at HX.out
      have x1 : w5.cell? ⟨X, 1, none⟩ = some (.slice none 0 0) := cell_at HX.out
      have x2 : w5.cell? ⟨X, 2, none⟩ = some (.slice none 0 0) := cell_at HX.out
      have x3 : w5.cell? ⟨X, 3, none⟩ = some (.int .u32 0) := cell_at HX.out
      have f0 : w5.frozen? ⟨X, 0, none⟩ = false := free_at HX.out
      have f1 : w5.frozen? ⟨X, 1, none⟩ = false := free_at HX.out
      have f2 : w5.frozen? ⟨X, 2, none⟩ = false := free_at HX.out
      have f3 : w5.frozen? ⟨X, 3, none⟩ = false := free_at HX.out
      obtain ⟨-, c5⟩ := four_cells' HX.out (.int .u32 t.ver) (.slice ai ps.length ci) (.slice ao t.outs.length co) (.int .u32 t.lock)
      have hfx := c5 [X] (by simp)
      have HBB := Lib.hid (HB.out.trans (hfx.below HB.out.size (by have := HN.out; simp; omega)))
      have HOO := Lib.hid ((HNB.out.kept' (fun k hk hkl => hfx.block k hkl (by have := HN.out; have := HBW.out; simp; omega))).base (base' := w.heap.size) (by have := HN.out; have := HBW.out; omega))
      clear c5 hfx
      go_wp2_with fail
      refine bodyPost_ret (v := .tuple #[.agg #[.int .u32 t.ver, .slice ai ps.length ci, .slice ao t.outs.length co, .int .u32 t.lock], .int .i64 s.size, .int .i64 0]) (by simp [results, Try.results27, go_sem, x0, x1, x2, x3]) rfl ⟨_, by rw [HDE.out], by rw [HDE.out]; exact HOO.out, HBB.out⟩
    · have HDE := Lib.hid (hdec.trans (if_neg hc))
      obtain ⟨ck, hck⟩ : ∃ ck, ck = checkOf t := ⟨_, rfl⟩
      rw [← hck] at HDE HCK hc
      have hne1 : (ck != 0) = true := by simpa using hc
      have hne2 : (ck == 0) = false := by simpa using hc
      clear hdec hck
      go_wp2_with fail
      refine HCK.out.mono ?_
      rintro e w4 ⟨rfl, hb⟩
      replace d2 := below_cells hb _ _ d2
      have HX := Lib.hid ((hb.block X (Array.getElem?_eq_some_iff.1 HX.out).1).trans HX.out)
      have HR := Lib.hid (HR.out.below hb)
      have HB := Lib.hid (HB.out.trans (hb.mono HB.out.size))
      have g2 : w4.frozen? ⟨b, 2, none⟩ = false := free_at HR.out
      clear hb y0 y1 y2 y3 HY HNB
      have hxb : X ≠ b := by have := HN.out; omega
      have HX := Lib.hid ((Below.heap_setCell w4 ⟨b, 2, none⟩ (.int .i64 ck) X hxb).trans HX.out)
      have HR := Lib.hid (HR.out.setErr ck)
      have HB := Lib.hid (HB.out.setCell (p := ⟨b, 2, none⟩) (by have := HN.out; dsimp only; omega) (.int .i64 ck))
      go_upto_region 5 with fail
      generalize w4.setCell ⟨b, 2, none⟩ (.int .i64 ck) = w5 at *
      clear d2 g2
      have d1 : w5.cell? ⟨b, 1, none⟩ = some (.int .i64 z.at_) := cell_at HR.out
      have d2 : w5.cell? ⟨b, 2, none⟩ = some (.int .i64 ck) := cell_at HR.out
      have x0 : w5.cell? ⟨X, 0, none⟩ = some (.int .u32 0) := cell_at HX.out
      have x1 : w5.cell? ⟨X, 1, none⟩ = some (.slice none 0 0) := cell_at HX.out
      have x2 : w5.cell? ⟨X, 2, none⟩ = some (.slice none 0 0) := cell_at HX.out
      have x3 : w5.cell? ⟨X, 3, none⟩ = some (.int .u32 0) := cell_at HX.out
      have f0 : w5.frozen? ⟨X, 0, none⟩ = false := free_at HX.out
      have f1 : w5.frozen? ⟨X, 1, none⟩ = false := free_at HX.out
      have f2 : w5.frozen? ⟨X, 2, none⟩ = false := free_at HX.out
      have f3 : w5.frozen? ⟨X, 3, none⟩ = false := free_at HX.out
      obtain ⟨-, c5⟩ := four_cells' HX.out (.int .u32 ((0 : Nat) : Int)) (.slice none 0 0) (.slice none 0 0) (.int .u32 ((0 : Nat) : Int))
      have hfx := c5 [X] (by simp)
      have HBB := Lib.hid (HB.out.trans (hfx.below HB.out.size (by have := HN.out; simp; omega)))
      clear c5 hfx
      go_wp2_with fail
      go_region
      have HBD := Lib.hid (HBB.out.drew)
      go_wp2_with fail
      refine bodyPost_ret (v := .tuple #[.agg #[.int .u32 ((0 : Nat) : Int), .slice none 0 0, .slice none 0 0, .int .u32 ((0 : Nat) : Int)], .int .i64 z.at_, .int .i64 ck]) (by simp [results, Try.results27, go_sem, x0, x1, x2, x3]) rfl ⟨_, by rw [HDE.out], by rw [HDE.out]; exact noTx_own _ _, HBD.out⟩
  · have HDE := Lib.hid (HD.out.trans (if_neg hze))
    obtain ⟨ck, hck⟩ : ∃ ck, ck = z.err := ⟨_, rfl⟩
    rw [← hck] at HDE hze
    have hne1 : (ck != 0) = true := by simpa using hze
    have hne2 : (ck == 0) = false := by simpa using hze
    have hxb : X ≠ b := by have := HN.out; omega
    have HR := Lib.hid (show RdAt b s ⟨z.at_, ck⟩ w3 by rw [hck]; exact HR.out)
    clear hck
    have d1 : w3.cell? ⟨b, 1, none⟩ = some (.int .i64 z.at_) := cell_at HR.out
    have d2 : w3.cell? ⟨b, 2, none⟩ = some (.int .i64 ck) := cell_at HR.out
    have x0 : w3.cell? ⟨X, 0, none⟩ = some (.int .u32 0) := cell_at HX.out
    have x1 : w3.cell? ⟨X, 1, none⟩ = some (.slice none 0 0) := cell_at HX.out
    have x2 : w3.cell? ⟨X, 2, none⟩ = some (.slice none 0 0) := cell_at HX.out
    have x3 : w3.cell? ⟨X, 3, none⟩ = some (.int .u32 0) := cell_at HX.out
    have f0 : w3.frozen? ⟨X, 0, none⟩ = false := free_at HX.out
    have f1 : w3.frozen? ⟨X, 1, none⟩ = false := free_at HX.out
    have f2 : w3.frozen? ⟨X, 2, none⟩ = false := free_at HX.out
    have f3 : w3.frozen? ⟨X, 3, none⟩ = false := free_at HX.out
    obtain ⟨-, c5⟩ := four_cells' HX.out (.int .u32 ((0 : Nat) : Int)) (.slice none 0 0) (.slice none 0 0) (.int .u32 ((0 : Nat) : Int))
    have hfx := c5 [X] (by simp)
    have HBB := Lib.hid (HB.out.trans (hfx.below HB.out.size (by have := HN.out; simp; omega)))
    clear c5 hfx
    go_wp2_with fail
    go_region
    have HBD := Lib.hid (HBB.out.drew)
    go_wp2_with fail
    refine bodyPost_ret (v := .tuple #[.agg #[.int .u32 ((0 : Nat) : Int), .slice none 0 0, .slice none 0 0, .int .u32 ((0 : Nat) : Int)], .int .i64 z.at_, .int .i64 ck]) (by simp [results, Try.results27, go_sem, x0, x1, x2, x3]) rfl ⟨_, by rw [HDE.out], by rw [HDE.out]; exact noTx_own _ _, HBD.out⟩
end Go.Proofs.Ytmcknjldimnaoaa
