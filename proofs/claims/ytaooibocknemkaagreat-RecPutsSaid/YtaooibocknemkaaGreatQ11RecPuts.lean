/-
  RecPuts, part 11: the texts Rf, Er, Regg, one after another. Conditions: none beyond those named at each.
-/
import Derived.Test.YtaooibocknemkaaGreatRe
import Derived.Test.YtaooibocknemkaaGreatQ10RecPuts
import Derived.Test.YtaooibocknemkaaGreatQ8RecPuts
section
namespace Go.Proofs.YtaooibocknemkaaGreat
open Go.RowKit Go.BigFrame
open Go.Lib (hid)
set_option linter.unusedVariables false
set_option linter.unusedSimpArgs false

/-- It returns this transaction, of the call's own, this place and this error. -/
def DecIs (r : PTx × Nat × Int) (w : World) (e : Ending) (w' : World) : Prop := ∃ v, e = .returned (.tuple #[v, .int .i64 r.2.1, .int .i64 r.2.2]) ∧ TxOwn w.heap.size w' v r.1 ∧ Below w.heap.size w w'
theorem outs_le (l : List UInt8) (z : Zst) : (txOf (allZ l z).2).outs.length ≤ 256 := by
  have h : ∀ z, (outsZ l z).2.length ≤ 256 := fun z => by
    show (repZ outZ (cntZ 1 256 6 l z).2 l (cntZ 1 256 6 l z).1).2.length ≤ 256
    rw [repZ_len]
    exact cntZ_le 1 256 6 l z
  exact h _
theorem noTx_own (base : Nat) (w : World) : TxOwn base w (.agg #[.int .u32 (0 : Nat), .slice none 0 0, .slice none 0 0, .int .u32 (0 : Nat)]) noTx :=
  ⟨⟨_, _, [], rfl, rfl, insOwn_nil _ _, outsOwn_nil _ _, fun b h => by cases h⟩, by decide, by decide⟩

set_option maxRecDepth 100000 in
set_option maxHeartbeats 4000000 in
theorem decode_any (s : ByteArray) (w : World) (hs : s.size ≤ 9223372036854775000) : Calls Tryz.prog 141 #[.string s] w (DecIs (decZ s.data.toList) w) := by
  obtain ⟨t, ht⟩ : ∃ t, t = txOf (allZ s.data.toList ⟨0, 0⟩).2 := ⟨_, rfl⟩
  obtain ⟨z, hz⟩ : ∃ z, z = endZ s.data.toList (allZ s.data.toList ⟨0, 0⟩).1 := ⟨_, rfl⟩
  have hdec : decZ s.data.toList = if z.err = 0 then (if checkOf t = 0 then (t, s.data.toList.length, 0) else (noTx, z.at_, checkOf t)) else (noTx, z.at_, z.err) := by rw [ht, hz]; rfl
  rw [data_len] at hdec
  obtain ⟨r, hr⟩ : ∃ r, r = decZ s.data.toList := ⟨_, rfl⟩
  rw [← hr] at hdec ⊢
  have hol : t.outs.length ≤ 1000 := by have := outs_le s.data.toList ⟨0, 0⟩; rw [ht]; omega
  have q : ∀ y b, RdAt b s ⟨0, 0⟩ y → _ := fun y b hy => read_any b s y hy hs
  simp only [← ht, ← hz] at q
  have HQ := hid q
  have HD := hid hdec
  have HOL := hid hol
  clear q hdec hol ht hz hr
  go_enter Tryz.func141, Tryz.ntmps141
  go_upto_region 1 with fail
  have hz := heap_alloc_new w (.cells #[.int .u32 0, .slice none 0 0, .slice none 0 0, .int .u32 0] 26)
  have hal : Below w.heap.size w (w.alloc (.cells #[.int .u32 0, .slice none 0 0, .slice none 0 0, .int .u32 0] 26)) := (Below.refl _ _).alloc (Nat.le_refl _) _
  obtain ⟨X, hX⟩ : ∃ q, q = w.heap.size := ⟨_, rfl⟩
  rw [← hX] at hz ⊢
  generalize w.alloc (.cells #[.int .u32 0, .slice none 0 0, .slice none 0 0, .int .u32 0] 26) = w0 at *
  have HX := hid hz
  have HB := hid hal
  have HXN := hid hX
  clear hz hal hX
  go_upto_region 2 with fail
  have hz := heap_alloc_new w0 (.cells #[.string s, .int .i64 0, .int .i64 0] 218)
  have hal : Below w0.heap.size w0 (w0.alloc (.cells #[.string s, .int .i64 0, .int .i64 0] 218)) := (Below.refl _ _).alloc (Nat.le_refl _) _
  obtain ⟨b, hb⟩ : ∃ q, q = w0.heap.size := ⟨_, rfl⟩
  rw [← hb] at hz ⊢
  generalize w0.alloc (.cells #[.string s, .int .i64 0, .int .i64 0] 218) = w1 at *
  have HR := hid (show RdAt b s ⟨0, 0⟩ w1 from hz)
  have HN := hid (show X = w.heap.size ∧ X < b from ⟨HXN.out, by rw [hb]; exact (Array.getElem?_eq_some_iff.1 HX.out).1⟩)
  have HX := hid ((hal.block X (Array.getElem?_eq_some_iff.1 HX.out).1).trans HX.out)
  have HB := hid (HB.out.trans (hal.mono HB.out.size))
  clear hz hal hb
  go_wp2_with fail
  refine (HQ.out w1 b HR.out).mono ?_
  rintro e w2 ⟨v, rfl, hown, ha, hf⟩
  obtain ⟨⟨vi, vo, ps, rfl, hp, hi, ho, hap⟩, hv1, hv2⟩ := id hown
  obtain ⟨ai, ci, e1, -, -⟩ := ownsRow_shape hi.row
  obtain ⟨ao, co, e2, -, -⟩ := ownsRow_shape ho.row
  subst e1
  subst e2
  have hb1 : Below w.heap.size w w2 := by
    refine ⟨hf.os.trans HB.out.os, hf.tape.trans HB.out.tape, hf.output.trans HB.out.output, Nat.le_trans HB.out.size hf.size, fun k hk => ?_⟩
    rw [hf.block k (Nat.lt_of_lt_of_le hk HB.out.size) (by have := HN.out; simp; omega)]
    exact HB.out.block k hk
  have HX := hid (hf.heap HX.out (by have := HN.out; simp; omega))
  have HO := hid (hown.base (base' := b) (Nat.le_of_lt HR.out.lt))
  have HNB := hid (show TxOwn w1.heap.size w2 _ t from hown)
  have HB := hid hb1
  have HBW := hid (show b < w1.heap.size from HR.out.lt)
  have HFS := hid hf.size
  have HR := hid ha
  clear hown hp hi ho hap hv1 hv2 ha hf hb1 HQ
  go_upto_region 3 with fail
  have hz := heap_alloc_new w2 (.cells #[.int .u32 t.ver, .slice ai ps.length ci, .slice ao t.outs.length co, .int .u32 t.lock] 26)
  have hal : Below w2.heap.size w2 (w2.alloc (.cells #[.int .u32 t.ver, .slice ai ps.length ci, .slice ao t.outs.length co, .int .u32 t.lock] 26)) := (Below.refl _ _).alloc (Nat.le_refl _) _
  obtain ⟨Y, hY⟩ : ∃ q, q = w2.heap.size := ⟨_, rfl⟩
  rw [← hY] at hz ⊢
  generalize w2.alloc (.cells #[.int .u32 t.ver, .slice ai ps.length ci, .slice ao t.outs.length co, .int .u32 t.lock] 26) = w3 at *
  have HX := hid ((hal.block X (Array.getElem?_eq_some_iff.1 HX.out).1).trans HX.out)
  have HR := hid (HR.out.below hal)
  have HY := hid hz
  have HNB := hid (HNB.out.below hal)
  have HB := hid (HB.out.trans (hal.mono HB.out.size))
  have HYN := hid (show b < Y from by rw [hY]; exact Nat.lt_of_lt_of_le HBW.out HFS.out)
  clear hz hal hY
  by_cases hze : z.err = 0
  · have hdec := HD.out.trans (if_pos hze)
    have d2 : w3.cell? ⟨b, 2, none⟩ = some (.int .i64 z.err) := cell_at HR.out
    rw [hze] at d2
    have y0 : w3.cell? ⟨Y, 0, none⟩ = some (.int .u32 t.ver) := cell_at HY.out
    have y1 : w3.cell? ⟨Y, 1, none⟩ = some (.slice ai ps.length ci) := cell_at HY.out
    have y2 : w3.cell? ⟨Y, 2, none⟩ = some (.slice ao t.outs.length co) := cell_at HY.out
    have y3 : w3.cell? ⟨Y, 3, none⟩ = some (.int .u32 t.lock) := cell_at HY.out
    have HCK := hid (check_any _ t w3 HNB.out.tx HOL.out)
    clear hze
    by_cases hc : checkOf t = 0
    · have HDE := hid (hdec.trans (if_pos hc))
      rw [hc] at HCK
      clear hc hdec
      go_wp2_with fail
      refine HCK.out.mono ?_
      rintro e w4 ⟨rfl, hb⟩
      replace d2 := below_cells hb _ _ d2
      replace y0 := below_cells hb _ _ y0
      replace y1 := below_cells hb _ _ y1
      replace y2 := below_cells hb _ _ y2
      replace y3 := below_cells hb _ _ y3
      have HX := hid ((hb.block X (Array.getElem?_eq_some_iff.1 HX.out).1).trans HX.out)
      have HR := hid (HR.out.below hb)
      have HY := hid ((hb.block Y (Array.getElem?_eq_some_iff.1 HY.out).1).trans HY.out)
      have HNB := hid (HNB.out.below hb)
      have HB := hid (HB.out.trans (hb.mono HB.out.size))
      have g2 : w4.frozen? ⟨b, 2, none⟩ = false := free_at HR.out
      clear hb
      have hxb : X ≠ b := by have := HN.out; omega
      have hyb : Y ≠ b := by have := HYN.out; omega
      have HX := hid ((Below.heap_setCell w4 ⟨b, 2, none⟩ (.int .i64 0) X hxb).trans HX.out)
      have HY := hid ((Below.heap_setCell w4 ⟨b, 2, none⟩ (.int .i64 0) Y hyb).trans HY.out)
      have HR := hid (HR.out.setErr 0)
      have HNB := hid (HNB.out.kept' (w' := w4.setCell ⟨b, 2, none⟩ (.int .i64 0)) fun k hk _ => Below.heap_setCell _ _ _ _ (by have := HBW.out; dsimp only; omega))
      have HB := hid (HB.out.setCell (p := ⟨b, 2, none⟩) (by have := HN.out; dsimp only; omega) (.int .i64 0))
      go_upto_region 5 with fail
      generalize w4.setCell ⟨b, 2, none⟩ (.int .i64 0) = w5 at *
      clear d2 y0 y1 y2 y3 g2 hxb hyb
      have d2 : w5.cell? ⟨b, 2, none⟩ = some (.int .i64 0) := cell_at HR.out
      have y0 : w5.cell? ⟨Y, 0, none⟩ = some (.int .u32 t.ver) := cell_at HY.out
      have y1 : w5.cell? ⟨Y, 1, none⟩ = some (.slice ai ps.length ci) := cell_at HY.out
      have y2 : w5.cell? ⟨Y, 2, none⟩ = some (.slice ao t.outs.length co) := cell_at HY.out
      have y3 : w5.cell? ⟨Y, 3, none⟩ = some (.int .u32 t.lock) := cell_at HY.out
      have x0 : w5.cell? ⟨X, 0, none⟩ = some (.int .u32 0) := cell_at HX.out
      have x1 : w5.cell? ⟨X, 1, none⟩ = some (.slice none 0 0) := cell_at HX.out
      have x2 : w5.cell? ⟨X, 2, none⟩ = some (.slice none 0 0) := cell_at HX.out
      have x3 : w5.cell? ⟨X, 3, none⟩ = some (.int .u32 0) := cell_at HX.out
      have f0 : w5.frozen? ⟨X, 0, none⟩ = false := free_at HX.out
      have f1 : w5.frozen? ⟨X, 1, none⟩ = false := free_at HX.out
      have f2 : w5.frozen? ⟨X, 2, none⟩ = false := free_at HX.out
      have f3 : w5.frozen? ⟨X, 3, none⟩ = false := free_at HX.out
      obtain ⟨-, c5⟩ := four_cells' HX.out (.int .u32 t.ver) (.slice ai ps.length ci) (.slice ao t.outs.length co) (.int .u32 t.lock)
      have hfx := c5 [X] (by simp)
      have HBB := hid (HB.out.trans (hfx.below HB.out.size (by have := HN.out; simp; omega)))
      have HOO := hid ((HNB.out.kept' (fun k hk hkl => hfx.block k hkl (by have := HN.out; have := HBW.out; simp; omega))).base (base' := w.heap.size) (by have := HN.out; have := HBW.out; omega))
      clear c5 hfx
      go_wp2_with fail
      refine bodyPost_ret (v := .tuple #[.agg #[.int .u32 t.ver, .slice ai ps.length ci, .slice ao t.outs.length co, .int .u32 t.lock], .int .i64 s.size, .int .i64 0]) (by simp [results, Tryz.results141, go_sem, x0, x1, x2, x3]) rfl ⟨_, by rw [HDE.out], by rw [HDE.out]; exact HOO.out, HBB.out⟩
    · have HDE := hid (hdec.trans (if_neg hc))
      obtain ⟨ck, hck⟩ : ∃ ck, ck = checkOf t := ⟨_, rfl⟩
      rw [← hck] at HDE HCK hc
      have hne1 : (ck != 0) = true := by simpa using hc
      have hne2 : (ck == 0) = false := by simpa using hc
      clear hdec hck
      go_wp2_with fail
      refine HCK.out.mono ?_
      rintro e w4 ⟨rfl, hb⟩
      replace d2 := below_cells hb _ _ d2
      have HX := hid ((hb.block X (Array.getElem?_eq_some_iff.1 HX.out).1).trans HX.out)
      have HR := hid (HR.out.below hb)
      have HB := hid (HB.out.trans (hb.mono HB.out.size))
      have g2 : w4.frozen? ⟨b, 2, none⟩ = false := free_at HR.out
      clear hb y0 y1 y2 y3 HY HNB
      have hxb : X ≠ b := by have := HN.out; omega
      have HX := hid ((Below.heap_setCell w4 ⟨b, 2, none⟩ (.int .i64 ck) X hxb).trans HX.out)
      have HR := hid (HR.out.setErr ck)
      have HB := hid (HB.out.setCell (p := ⟨b, 2, none⟩) (by have := HN.out; dsimp only; omega) (.int .i64 ck))
      go_upto_region 5 with fail
      generalize w4.setCell ⟨b, 2, none⟩ (.int .i64 ck) = w5 at *
      clear d2 g2
      have d1 : w5.cell? ⟨b, 1, none⟩ = some (.int .i64 z.at_) := cell_at HR.out
      have d2 : w5.cell? ⟨b, 2, none⟩ = some (.int .i64 ck) := cell_at HR.out
      have x0 : w5.cell? ⟨X, 0, none⟩ = some (.int .u32 0) := cell_at HX.out
      have x1 : w5.cell? ⟨X, 1, none⟩ = some (.slice none 0 0) := cell_at HX.out
      have x2 : w5.cell? ⟨X, 2, none⟩ = some (.slice none 0 0) := cell_at HX.out
      have x3 : w5.cell? ⟨X, 3, none⟩ = some (.int .u32 0) := cell_at HX.out
      have f0 : w5.frozen? ⟨X, 0, none⟩ = false := free_at HX.out
      have f1 : w5.frozen? ⟨X, 1, none⟩ = false := free_at HX.out
      have f2 : w5.frozen? ⟨X, 2, none⟩ = false := free_at HX.out
      have f3 : w5.frozen? ⟨X, 3, none⟩ = false := free_at HX.out
      obtain ⟨-, c5⟩ := four_cells' HX.out (.int .u32 ((0 : Nat) : Int)) (.slice none 0 0) (.slice none 0 0) (.int .u32 ((0 : Nat) : Int))
      have hfx := c5 [X] (by simp)
      have HBB := hid (HB.out.trans (hfx.below HB.out.size (by have := HN.out; simp; omega)))
      clear c5 hfx
      go_wp2_with fail
      go_region
      have HBD := hid (HBB.out.drew)
      go_wp2_with fail
      refine bodyPost_ret (v := .tuple #[.agg #[.int .u32 ((0 : Nat) : Int), .slice none 0 0, .slice none 0 0, .int .u32 ((0 : Nat) : Int)], .int .i64 z.at_, .int .i64 ck]) (by simp [results, Tryz.results141, go_sem, x0, x1, x2, x3]) rfl ⟨_, by rw [HDE.out], by rw [HDE.out]; exact noTx_own _ _, HBD.out⟩
  · have HDE := hid (HD.out.trans (if_neg hze))
    obtain ⟨ck, hck⟩ : ∃ ck, ck = z.err := ⟨_, rfl⟩
    rw [← hck] at HDE hze
    have hne1 : (ck != 0) = true := by simpa using hze
    have hne2 : (ck == 0) = false := by simpa using hze
    have hxb : X ≠ b := by have := HN.out; omega
    have HR := hid (show RdAt b s ⟨z.at_, ck⟩ w3 by rw [hck]; exact HR.out)
    clear hck
    have d1 : w3.cell? ⟨b, 1, none⟩ = some (.int .i64 z.at_) := cell_at HR.out
    have d2 : w3.cell? ⟨b, 2, none⟩ = some (.int .i64 ck) := cell_at HR.out
    have x0 : w3.cell? ⟨X, 0, none⟩ = some (.int .u32 0) := cell_at HX.out
    have x1 : w3.cell? ⟨X, 1, none⟩ = some (.slice none 0 0) := cell_at HX.out
    have x2 : w3.cell? ⟨X, 2, none⟩ = some (.slice none 0 0) := cell_at HX.out
    have x3 : w3.cell? ⟨X, 3, none⟩ = some (.int .u32 0) := cell_at HX.out
    have f0 : w3.frozen? ⟨X, 0, none⟩ = false := free_at HX.out
    have f1 : w3.frozen? ⟨X, 1, none⟩ = false := free_at HX.out
    have f2 : w3.frozen? ⟨X, 2, none⟩ = false := free_at HX.out
    have f3 : w3.frozen? ⟨X, 3, none⟩ = false := free_at HX.out
    obtain ⟨-, c5⟩ := four_cells' HX.out (.int .u32 ((0 : Nat) : Int)) (.slice none 0 0) (.slice none 0 0) (.int .u32 ((0 : Nat) : Int))
    have hfx := c5 [X] (by simp)
    have HBB := hid (HB.out.trans (hfx.below HB.out.size (by have := HN.out; simp; omega)))
    clear c5 hfx
    go_wp2_with fail
    go_region
    have HBD := hid (HBB.out.drew)
    go_wp2_with fail
    refine bodyPost_ret (v := .tuple #[.agg #[.int .u32 ((0 : Nat) : Int), .slice none 0 0, .slice none 0 0, .int .u32 ((0 : Nat) : Int)], .int .i64 z.at_, .int .i64 ck]) (by simp [results, Tryz.results141, go_sem, x0, x1, x2, x3]) rfl ⟨_, by rw [HDE.out], by rw [HDE.out]; exact noTx_own _ _, HBD.out⟩
end Go.Proofs.YtaooibocknemkaaGreat
end

section
namespace Go.Proofs.YtaooibocknemkaaGreat
open Go.RowKit Go.BigFrame
open Go.Lib (hid)
set_option linter.unusedVariables false
set_option linter.unusedSimpArgs false
theorem decZ_outs (l : List UInt8) : (decZ l).1.outs.length ≤ 256 := by
  unfold decZ
  split
  · split
    · exact outs_le l _
    · exact Nat.zero_le _
  · exact Nat.zero_le _
theorem txR_outs (x : RdS) : (txR x).2.outs.length ≤ 256 := by
  unfold txR
  split
  · exact Nat.zero_le _
  · exact decZ_outs _
theorem vgetL_end (l : List UInt8) : (vgetL l 0).2.1 ≤ 9 := by
  have hk : kOf (byteAt l 0) ≤ 8 := by unfold kOf; split <;> (try split) <;> (try split) <;> omega
  unfold vgetL
  split
  · exact Nat.zero_le _
  · split
    · exact Nat.zero_le _
    · split
      · show 0 + 1 + kOf (byteAt l 0) ≤ 9; omega
      · exact Nat.zero_le _
def TxRIs (b : Nat) (x : RdS) (w : World) (e : Ending) (w' : World) : Prop := ∃ v, e = .returned v ∧ TxOwn w.heap.size w' v (txR x).2 ∧ PdAt b (txR x).1 w' ∧ Fr [b] w w'
theorem PdAt.setOk {b : Nat} {t : List UInt8} {ok : Bool} {w : World} (h : PdAt b ⟨t, ok⟩ w) (k : Bool) : PdAt b ⟨t, k⟩ (w.setCell ⟨b, 1, none⟩ (.bool k)) := heap_setCell_at (j := 1) (u := .bool k) h
theorem noTxQ_own (base : Nat) (w : World) : TxOwn base w (.agg #[.int .u32 0, .slice none 0 0, .slice none 0 0, .int .u32 0]) noTx :=
  ⟨⟨.slice none 0 0, .slice none 0 0, [], rfl, rfl, insOwn_nil _ _, outsOwn_nil _ _, fun b h => by simp [Value.ownBlock] at h⟩, by decide, by decide⟩
theorem TxOwn.fr {base : Nat} {F : List Nat} {w w' : World} {v : Value} {t : PTx} (h : TxOwn base w v t) (hf : Fr F w w') (hF : ∀ k ∈ F, k < base) : TxOwn base w' v t := by
  obtain ⟨⟨vi, vo, ps, rfl, hp, h1, h2, h3⟩, h4, h5⟩ := h
  refine ⟨⟨vi, vo, ps, rfl, hp, h1.kept fun b hb => hf.block b (h1.lt hb).2 (fun hm => ?_), h2.kept fun b hb => hf.block b (h2.row.lt b hb).2 (fun hm => ?_), h3⟩, h4, h5⟩
  · have := hF b hm
    have := (h1.lt hb).1
    omega
  · have := hF b hm
    have := (h2.row.lt b hb).1
    omega
theorem Fr.row {F : List Nat} (w : World) (g : Nat) (cs : Array Value) (hg : g ∈ F) : Fr F w (w.setRow g cs) :=
  ⟨rfl, rfl, rfl, by rw [setRow_size]; exact Nat.le_refl _, fun k hk hn => setRow_other _ _ _ _ (fun e => hn (e ▸ hg))⟩
set_option maxRecDepth 100000 in
set_option maxHeartbeats 4000000 in
theorem rtx_any (b : Nat) (x : RdS) (w : World) (h : PdAt b x w) (hl : x.t.length ≤ 9223372036854775000) :
    Calls Tryz.prog 110 #[.pointer (some ⟨b, 0, none⟩)] w (TxRIs b x w) := by
  obtain ⟨t, ok⟩ := x
  dsimp only at hl
  obtain ⟨s, hs⟩ : ∃ s, s = bL t := ⟨_, rfl⟩
  have hsz : s.size = t.length := by rw [hs, bL_size]
  have hsd : s.data.toList = t := by rw [hs, bL_list]
  obtain ⟨n, hn⟩ : ∃ n, n = (vgetL t 0).1 := ⟨_, rfl⟩
  obtain ⟨q, hq⟩ : ∃ q, q = (vgetL t 0).2.1 := ⟨_, rfl⟩
  obtain ⟨er, her⟩ : ∃ er, er = (vgetL t 0).2.2 := ⟨_, rfl⟩
  have hq9 : q ≤ 9 := by rw [hq]; exact vgetL_end t
  have HV := hid (show ∀ y : World, Calls Tryz.prog 140 #[.string s, .int .i64 0] y (fun e w' => e = .returned (.tuple #[.int .u64 n, .int .i64 q, .int .i64 er]) ∧ Below y.heap.size y w') from fun y => by
    have h2 := vget_any s 0 y (by omega) (Nat.zero_le _)
    rw [hsd] at h2
    rw [hn, hq, her]
    exact h2)
  have HP := hid (show w.heap[b]? = some (.cells #[.string s, .bool ok] 147 (0, 0)) from hs ▸ h)
  have hlt := h.lt
  by_cases hbad : er ≠ 0 ∨ t.length < n
  · have HR := hid (show txR ⟨t, ok⟩ = (⟨t, false⟩, noTx) from by unfold txR; rw [if_pos (by rw [← her, ← hn]; exact hbad)])
    have HS := hid hs
    have tail : ∀ (X : Nat) (w1 : World), Hid (w1.heap[b]? = some (.cells #[.string s, .bool ok] 147 (0, 0))) → Hid (w1.heap[X]? = some (.cells #[.int .u32 0, .slice none 0 0, .slice none 0 0, .int .u32 0] 26 (0, 0))) → Hid (Fr [b] w w1) → Hid (X ≠ b) → Hid (X = w.heap.size) →
        TxRIs b ⟨t, ok⟩ w (.returned (.agg #[.int .u32 0, .slice none 0 0, .slice none 0 0, .int .u32 0])) ((w1.setCell ⟨b, 1, none⟩ (.bool false)).setRow X #[.int .u32 0, .slice none 0 0, .slice none 0 0, .int .u32 0]) := by
      intro X w1 HP HZ HF hbX HXX
      have hxb := hbX.out
      refine ⟨_, rfl, by rw [HR.out]; exact noTxQ_own _ _, ?_, ?_⟩
      · rw [HR.out]
        unfold PdAt
        rw [setRow_other _ _ _ _ (fun e => hxb e.symm), ← HS.out]
        exact heap_setCell_at (j := 1) (u := .bool false) HP.out
      · refine (((HF.out.mono (F' := [b, X]) (fun k hk => .inl (by simp at hk; simp [hk]))).trans' (Fr.setCell w1 ⟨b, 1, none⟩ (.bool false) (by simp))).trans' ?_).mono (F' := [b]) (fun k hk => by
          simp at hk
          rcases hk with rfl | rfl
          · exact .inl (by simp)
          · exact .inr (by have := HXX.out; omega))
        exact ⟨rfl, rfl, rfl, by rw [setRow_size]; exact Nat.le_refl _, fun k hk hn => setRow_other _ _ _ _ (fun e => hn (by simp [e]))⟩
    have c3 : IntKind.u64.wrap (s.size : Int) = (s.size : Int) := by rw [IntKind.wrap_u64]; omega
    clear hs hsd hn hq her h hl HS HR
    by_cases he : er = 0
    · have c1 : (er == 0) = true := by simpa using he
      have c2 : (s.size : Int) < (n : Int) := by
        rcases hbad with h0 | h0
        · exact absurd he h0
        · omega
      subst he
      clear hbad hsz hq9
      go_enter Tryz.func110, Tryz.ntmps110
      go_upto_region 1 with fail
      have hz := heap_alloc_new w (.cells #[.int .u32 0, .slice none 0 0, .slice none 0 0, .int .u32 0] 26)
      have hal : Below w.heap.size w (w.alloc (.cells #[.int .u32 0, .slice none 0 0, .slice none 0 0, .int .u32 0] 26)) := (Below.refl _ _).alloc (Nat.le_refl _) _
      obtain ⟨X, hX⟩ : ∃ q, q = w.heap.size := ⟨_, rfl⟩
      rw [← hX] at hz ⊢
      generalize w.alloc (.cells #[.int .u32 0, .slice none 0 0, .slice none 0 0, .int .u32 0] 26) = w0 at *
      have HZ := hid hz
      have HF := hid (show Fr [b] w w0 from Fr.bel hal)
      have HXX := hid hX
      have HP := hid ((hal.block b hlt).trans HP.out)
      have hbX := hid (show X ≠ b by omega)
      have d0 : w0.cell? ⟨b, 0, none⟩ = some (.string s) := cell_at HP.out
      clear hz hal hX hlt
      go_wp2_with fail
      refine (HV.out w0).mono ?_
      rintro e w1 ⟨rfl, hb⟩
      have HP := hid ((hb.block b (Array.getElem?_eq_some_iff.1 HP.out).1).trans HP.out)
      have HZ := hid ((hb.block X (Array.getElem?_eq_some_iff.1 HZ.out).1).trans HZ.out)
      have HF := hid (HF.out.trans' (Fr.bel hb))
      clear hb HV d0
      have d0 : w1.cell? ⟨b, 0, none⟩ = some (.string s) := cell_at HP.out
      have d1 : w1.cell? ⟨b, 1, none⟩ = some (.bool ok) := cell_at HP.out
      have f1 : w1.frozen? ⟨b, 1, none⟩ = false := free_at HP.out
      have HZ2 := hid (show (w1.setCell ⟨b, 1, none⟩ (.bool false)).heap[X]? = some (.cells #[.int .u32 0, .slice none 0 0, .slice none 0 0, .int .u32 0] 26 (0, 0)) from (Below.heap_setCell _ _ _ _ hbX.out).trans HZ.out)
      go_wp2_with (first | (refine wpList_store_row rfl 26 (.tmp 2) (.tmp 32) rfl X #[.int .u32 0, .slice none 0 0, .slice none 0 0, .int .u32 0] rfl rfl 26 _ HZ2.out (by kernel_rfl) rfl (by kernel_rfl) ?_))
      refine bodyPost_ret (v := .agg #[.int .u32 0, .slice none 0 0, .slice none 0 0, .int .u32 0]) (results_cell1 (P := Tryz.prog) (p := 2) (ty := 26) Tryz.results110 _ _ X 26 #[.int .u32 0, .slice none 0 0, .slice none 0 0, .int .u32 0] (0, 0) _ rfl (setRow_heap _ X _ _ _ _ HZ2.out) Tryz.underlying26 rfl (by kernel_rfl)) rfl ?_
      exact tail X w1 HP HZ HF hbX HXX
    · have c1 : (er == 0) = false := by simpa using he
      clear hbad hsz hq9 c3
      go_enter Tryz.func110, Tryz.ntmps110
      go_upto_region 1 with fail
      have hz := heap_alloc_new w (.cells #[.int .u32 0, .slice none 0 0, .slice none 0 0, .int .u32 0] 26)
      have hal : Below w.heap.size w (w.alloc (.cells #[.int .u32 0, .slice none 0 0, .slice none 0 0, .int .u32 0] 26)) := (Below.refl _ _).alloc (Nat.le_refl _) _
      obtain ⟨X, hX⟩ : ∃ q, q = w.heap.size := ⟨_, rfl⟩
      rw [← hX] at hz ⊢
      generalize w.alloc (.cells #[.int .u32 0, .slice none 0 0, .slice none 0 0, .int .u32 0] 26) = w0 at *
      have HZ := hid hz
      have HF := hid (show Fr [b] w w0 from Fr.bel hal)
      have HXX := hid hX
      have HP := hid ((hal.block b hlt).trans HP.out)
      have hbX := hid (show X ≠ b by omega)
      have d0 : w0.cell? ⟨b, 0, none⟩ = some (.string s) := cell_at HP.out
      clear hz hal hX hlt
      go_wp2_with fail
      refine (HV.out w0).mono ?_
      rintro e w1 ⟨rfl, hb⟩
      have HP := hid ((hb.block b (Array.getElem?_eq_some_iff.1 HP.out).1).trans HP.out)
      have HZ := hid ((hb.block X (Array.getElem?_eq_some_iff.1 HZ.out).1).trans HZ.out)
      have HF := hid (HF.out.trans' (Fr.bel hb))
      clear hb HV d0
      have d0 : w1.cell? ⟨b, 0, none⟩ = some (.string s) := cell_at HP.out
      have d1 : w1.cell? ⟨b, 1, none⟩ = some (.bool ok) := cell_at HP.out
      have f1 : w1.frozen? ⟨b, 1, none⟩ = false := free_at HP.out
      have HZ2 := hid (show (w1.setCell ⟨b, 1, none⟩ (.bool false)).heap[X]? = some (.cells #[.int .u32 0, .slice none 0 0, .slice none 0 0, .int .u32 0] 26 (0, 0)) from (Below.heap_setCell _ _ _ _ hbX.out).trans HZ.out)
      go_wp2_with (first | (refine wpList_store_row rfl 26 (.tmp 2) (.tmp 32) rfl X #[.int .u32 0, .slice none 0 0, .slice none 0 0, .int .u32 0] rfl rfl 26 _ HZ2.out (by kernel_rfl) rfl (by kernel_rfl) ?_))
      refine bodyPost_ret (v := .agg #[.int .u32 0, .slice none 0 0, .slice none 0 0, .int .u32 0]) (results_cell1 (P := Tryz.prog) (p := 2) (ty := 26) Tryz.results110 _ _ X 26 #[.int .u32 0, .slice none 0 0, .slice none 0 0, .int .u32 0] (0, 0) _ rfl (setRow_heap _ X _ _ _ _ HZ2.out) Tryz.underlying26 rfl (by kernel_rfl)) rfl ?_
      exact tail X w1 HP HZ HF hbX HXX
  · have her0 : er = 0 := Classical.byContradiction fun e => hbad (.inl e)
    have hle : n ≤ t.length := by
      rcases Nat.lt_or_ge t.length n with h0 | h0
      · exact absurd (.inr h0) hbad
      · exact h0
    obtain ⟨y1, hy1⟩ : ∃ y, y = (takeR q ⟨t, ok⟩).1 := ⟨_, rfl⟩
    obtain ⟨s1, hs1⟩ : ∃ y, y = bL (takeR q ⟨t, ok⟩).2 := ⟨_, rfl⟩
    obtain ⟨y2, hy2⟩ : ∃ y, y = (takeR n y1).1 := ⟨_, rfl⟩
    obtain ⟨l2, hl2⟩ : ∃ y, y = (takeR n y1).2 := ⟨_, rfl⟩
    obtain ⟨dz, hdz⟩ : ∃ y, y = decZ l2 := ⟨_, rfl⟩
    have hy1l : y1.t.length ≤ 9223372036854775000 := by rw [hy1]; exact Nat.le_trans (takeR_le q ⟨t, ok⟩) hl
    have hl2l : l2.length ≤ 9223372036854775000 := by
      rw [hl2]
      unfold takeR
      split
      · exact Nat.zero_le _
      · dsimp only; rw [List.length_take]; omega
    have HR := hid (show txR ⟨t, ok⟩ = (⟨y2.t, y2.ok && decide (dz.2.2 = 0)⟩, dz.1) from by
      unfold txR
      rw [if_neg (by rw [← her, ← hn]; exact hbad), ← hn, ← hq, ← hy1, ← hy2, ← hl2, ← hdz])
    have HT1 := hid (show ∀ y : World, PdAt b ⟨t, ok⟩ y → Calls Tryz.prog 139 #[.pointer (some ⟨b, 0, none⟩), .int .i64 q] y (PdIs b y1 (.string s1) y) from fun y hy => by
      rw [hy1, hs1]; exact take_any b ⟨t, ok⟩ q y hy (by omega) hl)
    obtain ⟨s2, hs2⟩ : ∃ y, y = bL l2 := ⟨_, rfl⟩
    have HT2 := hid (show ∀ y : World, PdAt b y1 y → Calls Tryz.prog 139 #[.pointer (some ⟨b, 0, none⟩), .int .i64 n] y (PdIs b y2 (.string s2) y) from fun y hy => by
      rw [hy2, hs2, hl2]; exact take_any b y1 n y hy (by omega) hy1l)
    have HD := hid (show ∀ y : World, Calls Tryz.prog 141 #[.string s2] y (DecIs dz y) from fun y => by
      have h2 := decode_any s2 y (by rw [hs2, bL_size]; exact hl2l)
      rw [hs2, bL_list] at h2
      rw [hdz, hs2]
      exact h2)
    have c1 : (er == 0) = true := by simpa using her0
    have c2 : ¬ (s.size : Int) < (n : Int) := by omega
    have c3 : IntKind.u64.wrap (s.size : Int) = (s.size : Int) := by rw [IntKind.wrap_u64]; omega
    have c4 : IntKind.i64.wrap (n : Int) = (n : Int) := by rw [IntKind.wrap_i64]; omega
    have HP1 := hid (show PdAt b ⟨t, ok⟩ w from h)
    subst her0
    have HS := hid hs
    clear hbad hle hsz hsd hn hq her h hl hq9 hy1 hs1 hy2 hl2 hdz hy1l hl2l hs2 hs
    go_enter Tryz.func110, Tryz.ntmps110
    go_upto_region 1 with fail
    have hz := heap_alloc_new w (.cells #[.int .u32 0, .slice none 0 0, .slice none 0 0, .int .u32 0] 26)
    have hal : Below w.heap.size w (w.alloc (.cells #[.int .u32 0, .slice none 0 0, .slice none 0 0, .int .u32 0] 26)) := (Below.refl _ _).alloc (Nat.le_refl _) _
    obtain ⟨X, hX⟩ : ∃ q, q = w.heap.size := ⟨_, rfl⟩
    rw [← hX] at hz ⊢
    generalize w.alloc (.cells #[.int .u32 0, .slice none 0 0, .slice none 0 0, .int .u32 0] 26) = w0 at *
    have HZ := hid hz
    have HF := hid (show Fr [b] w w0 from Fr.bel hal)
    have HXX := hid hX
    have HP := hid ((hal.block b hlt).trans HP.out)
    have hbX := hid (show X ≠ b by omega)
    have d0 : w0.cell? ⟨b, 0, none⟩ = some (.string s) := cell_at HP.out
    clear hz hal hX hlt
    go_wp2_with fail
    refine (HV.out w0).mono ?_
    rintro e w1 ⟨rfl, hb⟩
    have HP := hid ((hb.block b (Array.getElem?_eq_some_iff.1 HP.out).1).trans HP.out)
    have HZ := hid ((hb.block X (Array.getElem?_eq_some_iff.1 HZ.out).1).trans HZ.out)
    have HF := hid (HF.out.trans' (Fr.bel hb))
    clear hb HV d0
    have d0 : w1.cell? ⟨b, 0, none⟩ = some (.string s) := cell_at HP.out
    have d1 : w1.cell? ⟨b, 1, none⟩ = some (.bool ok) := cell_at HP.out
    have f1 : w1.frozen? ⟨b, 1, none⟩ = false := free_at HP.out
    go_wp2_with fail
    refine (HT1.out w1 (show PdAt b ⟨t, ok⟩ w1 from by unfold PdAt; rw [← HS.out]; exact HP.out)).mono ?_
    rintro e w2 ⟨rfl, ha, hf⟩
    have HP := hid ha
    have HZ := hid ((hf.block X (Array.getElem?_eq_some_iff.1 HZ.out).1 (by simpa using hbX.out)).trans HZ.out)
    have HF := hid (HF.out.trans' hf)
    clear ha hf HT1 d0 d1 f1
    go_wp2_with fail
    refine (HT2.out w2 HP.out).mono ?_
    rintro e w3 ⟨rfl, ha, hf⟩
    have HP := hid ha
    have HZ := hid ((hf.block X (Array.getElem?_eq_some_iff.1 HZ.out).1 (by simpa using hbX.out)).trans HZ.out)
    have HF := hid (HF.out.trans' hf)
    clear ha hf HT2
    go_wp2_with fail
    refine (HD.out w3).mono ?_
    rintro e w4 ⟨v, rfl, ht, hb⟩
    obtain ⟨pt, de, dr⟩ := dz
    obtain ⟨ta, tb, rfl, hta, htb, htv, htk⟩ := ht.tx
    dsimp only at hta htb htv htk
    have HO := hid ht
    have HBB := hid (show b < w3.heap.size ∧ X < w3.heap.size from ⟨HP.out.lt, (Array.getElem?_eq_some_iff.1 HZ.out).1⟩)
    have HSZ := hid (show w.heap.size ≤ w3.heap.size from HF.out.size)
    have HTA := hid hta
    have HTB := hid htb
    have HTV := hid htv
    have HTK := hid htk
    obtain ⟨iA, iC, rfl, -, -⟩ := hta.shape
    obtain ⟨oA, oC, rfl, -, -⟩ := htb.shape
    obtain ⟨n1, hn1⟩ : ∃ q, q = pt.ins.length := ⟨_, rfl⟩
    obtain ⟨n2, hn2⟩ : ∃ q, q = pt.outs.length := ⟨_, rfl⟩
    obtain ⟨pv, hpv⟩ : ∃ q, q = pt.ver := ⟨_, rfl⟩
    obtain ⟨pk, hpk⟩ : ∃ q, q = pt.lock := ⟨_, rfl⟩
    dsimp only
    rw [← hn1, ← hn2, ← hpv, ← hpk]
    have HN := hid (And.intro hn1 (And.intro hn2 (And.intro hpv hpk)))
    have HP := hid (HP.out.below hb)
    have HZ := hid ((hb.block X (Array.getElem?_eq_some_iff.1 HZ.out).1).trans HZ.out)
    have HF := hid (HF.out.trans' (Fr.bel hb))
    clear hb HD ht hta htb htv htk hn1 hn2 hpv hpk
    obtain ⟨t2, ok2⟩ := y2
    obtain ⟨ss, hss⟩ : ∃ ss, ss = bL t2 := ⟨_, rfl⟩
    have HPc := hid (show w4.heap[b]? = some (.cells #[.string ss, .bool ok2] 147 (0, 0)) from hss ▸ HP.out)
    clear hss
    go_upto_region 7 with fail
    have hz := heap_alloc_new w4 (.cells #[.int .u32 pv, .slice iA n1 iC, .slice oA n2 oC, .int .u32 pk] 26)
    have hal : Below w4.heap.size w4 (w4.alloc (.cells #[.int .u32 pv, .slice iA n1 iC, .slice oA n2 oC, .int .u32 pk] 26)) := (Below.refl _ _).alloc (Nat.le_refl _) _
    obtain ⟨Y, hY⟩ : ∃ q, q = w4.heap.size := ⟨_, rfl⟩
    rw [← hY] at hz ⊢
    generalize w4.alloc (.cells #[.int .u32 pv, .slice iA n1 iC, .slice oA n2 oC, .int .u32 pk] 26) = w5 at *
    have hbY := hid (show Y ≠ b by have := HP.out.lt; omega)
    have HY := hid hz
    have HF5 := hid (show Fr [b, X] w4 w5 from Fr.of_below hal _)
    have HP := hid (HP.out.below hal)
    have HPc := hid ((hal.block b (Array.getElem?_eq_some_iff.1 HPc.out).1).trans HPc.out)
    have HZ := hid ((hal.block X (Array.getElem?_eq_some_iff.1 HZ.out).1).trans HZ.out)
    have HF := hid (HF.out.trans' (Fr.bel hal))
    clear hz hal hY
    have d1 : w5.cell? ⟨b, 1, none⟩ = some (.bool ok2) := cell_at HPc.out
    have f1 : w5.frozen? ⟨b, 1, none⟩ = false := free_at HPc.out
    clear HPc
    have HKB := hid (show ∀ kb, kb = (ok2 && decide (dr = 0)) → txR ⟨t, ok⟩ = (⟨t2, kb⟩, pt) from fun kb hkb => by rw [HR.out, hkb])
    clear HR
    rcases (by cases ok2 <;> by_cases h0 : dr = 0 <;> simp [h0] : ok2 = false ∨ (ok2 = true ∧ dr = 0) ∨ (ok2 = true ∧ ¬ dr = 0)) with h0 | ⟨h0, h1⟩ | ⟨h0, h1⟩
    · subst h0
      have HP := hid (show PdAt b ⟨t2, false⟩ (w5.setCell ⟨b, 1, none⟩ (.bool false)) from HP.out.setOk false)
      have HY := hid (show (w5.setCell ⟨b, 1, none⟩ (.bool false)).heap[Y]? = some (.cells #[.int .u32 pv, .slice iA n1 iC, .slice oA n2 oC, .int .u32 pk] 26 (0, 0)) from (Below.heap_setCell _ _ _ _ hbY.out).trans HY.out)
      have HZ := hid (show (w5.setCell ⟨b, 1, none⟩ (.bool false)).heap[X]? = some (.cells #[.int .u32 0, .slice none 0 0, .slice none 0 0, .int .u32 0] 26 (0, 0)) from (Below.heap_setCell _ _ _ _ hbX.out).trans HZ.out)
      have HF := hid (HF.out.trans' (Fr.setCell w5 ⟨b, 1, none⟩ (.bool false) (by simp)))
      go_wp2_with (first
        | (refine wpList_load_row rfl 26 (.tmp 6) rfl Y rfl 26 _ (0, 0) _ HY.out Tryz.underlying26 rfl (by kernel_rfl) ?_)
        | (refine wpList_store_row rfl 26 (.tmp 2) (.tmp 56) rfl X #[.int .u32 pv, .slice iA n1 iC, .slice oA n2 oC, .int .u32 pk] rfl rfl 26 _ HZ.out (by kernel_rfl) rfl (by kernel_rfl) ?_))
      refine bodyPost_ret (v := .agg #[.int .u32 pv, .slice iA n1 iC, .slice oA n2 oC, .int .u32 pk]) (results_cell1 (P := Tryz.prog) (p := 2) (ty := 26) Tryz.results110 _ _ X 26 #[.int .u32 pv, .slice iA n1 iC, .slice oA n2 oC, .int .u32 pk] (0, 0) _ rfl (setRow_heap _ X _ _ _ _ HZ.out) Tryz.underlying26 rfl (by kernel_rfl)) rfl ?_
      have HF4 := hid ((HF5.out.trans' (Fr.setCell w5 ⟨b, 1, none⟩ (.bool false) (by simp))))
      generalize w5.setCell ⟨b, 1, none⟩ (.bool false) = w6 at *
      have hfr2 : Fr [b, X] w (w6.setRow X #[.int .u32 pv, .slice iA n1 iC, .slice oA n2 oC, .int .u32 pk]) := (HF.out.mono (F' := [b, X]) (fun k hk => .inl (by simp at hk; simp [hk]))).trans' (Fr.row _ _ _ (by simp))
      have hfr4 : Fr [b, X] w4 (w6.setRow X #[.int .u32 pv, .slice iA n1 iC, .slice oA n2 oC, .int .u32 pk]) := HF4.out.trans' (Fr.row _ _ _ (by simp))
      have hown := (HO.out.fr hfr4 (fun k hk => by
        have := HBB.out
        simp at hk
        rcases hk with rfl | rfl <;> omega)).base HSZ.out
      obtain ⟨e1, e2, e3, e4⟩ := HN.out
      have hxb := hbX.out
      refine ⟨_, rfl, ?_, ?_, ?_⟩
      · rw [HKB.out false (by simp)]
        rw [e1, e2, e3, e4] at hown ⊢
        exact hown
      · rw [HKB.out false (by simp)]
        unfold PdAt
        rw [setRow_other _ _ _ _ (fun e => hxb e.symm)]
        exact HP.out
      · refine hfr2.mono (F' := [b]) (fun k hk => ?_)
        simp at hk
        rcases hk with rfl | rfl
        · exact .inl (by simp)
        · exact .inr (by have := HXX.out; omega)
    · subst h0; have e0 : (dr == 0) = true := by simpa using h1
      subst h1
      have HP := hid (show PdAt b ⟨t2, true⟩ (w5.setCell ⟨b, 1, none⟩ (.bool true)) from HP.out.setOk true)
      have HY := hid (show (w5.setCell ⟨b, 1, none⟩ (.bool true)).heap[Y]? = some (.cells #[.int .u32 pv, .slice iA n1 iC, .slice oA n2 oC, .int .u32 pk] 26 (0, 0)) from (Below.heap_setCell _ _ _ _ hbY.out).trans HY.out)
      have HZ := hid (show (w5.setCell ⟨b, 1, none⟩ (.bool true)).heap[X]? = some (.cells #[.int .u32 0, .slice none 0 0, .slice none 0 0, .int .u32 0] 26 (0, 0)) from (Below.heap_setCell _ _ _ _ hbX.out).trans HZ.out)
      have HF := hid (HF.out.trans' (Fr.setCell w5 ⟨b, 1, none⟩ (.bool true) (by simp)))
      go_wp2_with (first
        | (refine wpList_load_row rfl 26 (.tmp 6) rfl Y rfl 26 _ (0, 0) _ HY.out Tryz.underlying26 rfl (by kernel_rfl) ?_)
        | (refine wpList_store_row rfl 26 (.tmp 2) (.tmp 56) rfl X #[.int .u32 pv, .slice iA n1 iC, .slice oA n2 oC, .int .u32 pk] rfl rfl 26 _ HZ.out (by kernel_rfl) rfl (by kernel_rfl) ?_))
      refine bodyPost_ret (v := .agg #[.int .u32 pv, .slice iA n1 iC, .slice oA n2 oC, .int .u32 pk]) (results_cell1 (P := Tryz.prog) (p := 2) (ty := 26) Tryz.results110 _ _ X 26 #[.int .u32 pv, .slice iA n1 iC, .slice oA n2 oC, .int .u32 pk] (0, 0) _ rfl (setRow_heap _ X _ _ _ _ HZ.out) Tryz.underlying26 rfl (by kernel_rfl)) rfl ?_
      have HF4 := hid ((HF5.out.trans' (Fr.setCell w5 ⟨b, 1, none⟩ (.bool true) (by simp))))
      generalize w5.setCell ⟨b, 1, none⟩ (.bool true) = w6 at *
      have hfr2 : Fr [b, X] w (w6.setRow X #[.int .u32 pv, .slice iA n1 iC, .slice oA n2 oC, .int .u32 pk]) := (HF.out.mono (F' := [b, X]) (fun k hk => .inl (by simp at hk; simp [hk]))).trans' (Fr.row _ _ _ (by simp))
      have hfr4 : Fr [b, X] w4 (w6.setRow X #[.int .u32 pv, .slice iA n1 iC, .slice oA n2 oC, .int .u32 pk]) := HF4.out.trans' (Fr.row _ _ _ (by simp))
      have hown := (HO.out.fr hfr4 (fun k hk => by
        have := HBB.out
        simp at hk
        rcases hk with rfl | rfl <;> omega)).base HSZ.out
      obtain ⟨e1, e2, e3, e4⟩ := HN.out
      have hxb := hbX.out
      refine ⟨_, rfl, ?_, ?_, ?_⟩
      · rw [HKB.out true (by simp)]
        rw [e1, e2, e3, e4] at hown ⊢
        exact hown
      · rw [HKB.out true (by simp)]
        unfold PdAt
        rw [setRow_other _ _ _ _ (fun e => hxb e.symm)]
        exact HP.out
      · refine hfr2.mono (F' := [b]) (fun k hk => ?_)
        simp at hk
        rcases hk with rfl | rfl
        · exact .inl (by simp)
        · exact .inr (by have := HXX.out; omega)
    · subst h0; have e0 : (dr == 0) = false := by simpa using h1
      have HP := hid (show PdAt b ⟨t2, false⟩ (w5.setCell ⟨b, 1, none⟩ (.bool false)) from HP.out.setOk false)
      have HY := hid (show (w5.setCell ⟨b, 1, none⟩ (.bool false)).heap[Y]? = some (.cells #[.int .u32 pv, .slice iA n1 iC, .slice oA n2 oC, .int .u32 pk] 26 (0, 0)) from (Below.heap_setCell _ _ _ _ hbY.out).trans HY.out)
      have HZ := hid (show (w5.setCell ⟨b, 1, none⟩ (.bool false)).heap[X]? = some (.cells #[.int .u32 0, .slice none 0 0, .slice none 0 0, .int .u32 0] 26 (0, 0)) from (Below.heap_setCell _ _ _ _ hbX.out).trans HZ.out)
      have HF := hid (HF.out.trans' (Fr.setCell w5 ⟨b, 1, none⟩ (.bool false) (by simp)))
      go_wp2_with (first
        | (refine wpList_load_row rfl 26 (.tmp 6) rfl Y rfl 26 _ (0, 0) _ HY.out Tryz.underlying26 rfl (by kernel_rfl) ?_)
        | (refine wpList_store_row rfl 26 (.tmp 2) (.tmp 56) rfl X #[.int .u32 pv, .slice iA n1 iC, .slice oA n2 oC, .int .u32 pk] rfl rfl 26 _ HZ.out (by kernel_rfl) rfl (by kernel_rfl) ?_))
      refine bodyPost_ret (v := .agg #[.int .u32 pv, .slice iA n1 iC, .slice oA n2 oC, .int .u32 pk]) (results_cell1 (P := Tryz.prog) (p := 2) (ty := 26) Tryz.results110 _ _ X 26 #[.int .u32 pv, .slice iA n1 iC, .slice oA n2 oC, .int .u32 pk] (0, 0) _ rfl (setRow_heap _ X _ _ _ _ HZ.out) Tryz.underlying26 rfl (by kernel_rfl)) rfl ?_
      have HF4 := hid ((HF5.out.trans' (Fr.setCell w5 ⟨b, 1, none⟩ (.bool false) (by simp))))
      generalize w5.setCell ⟨b, 1, none⟩ (.bool false) = w6 at *
      have hfr2 : Fr [b, X] w (w6.setRow X #[.int .u32 pv, .slice iA n1 iC, .slice oA n2 oC, .int .u32 pk]) := (HF.out.mono (F' := [b, X]) (fun k hk => .inl (by simp at hk; simp [hk]))).trans' (Fr.row _ _ _ (by simp))
      have hfr4 : Fr [b, X] w4 (w6.setRow X #[.int .u32 pv, .slice iA n1 iC, .slice oA n2 oC, .int .u32 pk]) := HF4.out.trans' (Fr.row _ _ _ (by simp))
      have hown := (HO.out.fr hfr4 (fun k hk => by
        have := HBB.out
        simp at hk
        rcases hk with rfl | rfl <;> omega)).base HSZ.out
      obtain ⟨e1, e2, e3, e4⟩ := HN.out
      have hxb := hbX.out
      refine ⟨_, rfl, ?_, ?_, ?_⟩
      · rw [HKB.out false (by simp [h1])]
        rw [e1, e2, e3, e4] at hown ⊢
        exact hown
      · rw [HKB.out false (by simp [h1])]
        unfold PdAt
        rw [setRow_other _ _ _ _ (fun e => hxb e.symm)]
        exact HP.out
      · refine hfr2.mono (F' := [b]) (fun k hk => ?_)
        simp at hk
        rcases hk with rfl | rfl
        · exact .inl (by simp)
        · exact .inr (by have := HXX.out; omega)
end Go.Proofs.YtaooibocknemkaaGreat
end

section
namespace Go.Proofs.YtaooibocknemkaaGreat
open Go.RowKit Go.BigFrame
set_option linter.unusedVariables false
section
variable {P : Program} {R : Nat → List Value → Value → Prop} {l : List Oper} {L : Nat → Prop} {xs : List Value}
theorem wp_region_valsg (R : Nat → List Value → Value → Prop) (W : (Nat → Prop) → World → Prop) {id : Nat} {Q : Exit → Act → World → Prop} {a0 : Act} {w0 : World} (hm : P.follows .mixedOrders = true) (hb : backB .any l.toArray = true)
    (hd : dstB l = true)
    (h0 : W (fun _ => False) w0.drew)
    (hstep : ∀ i o, i < l.length → l[i]? = some o → ∀ (L : Nat → Prop) (xs : List Value) (w : World), Vals R l L xs → W L w → ¬ L i → (∀ d, (deps l i).contains d = true → L d) →
      (Region.wanted o (yielded l.toArray (putAll a0 l xs).tmps) = true ∧ o.wp P (putAll a0 l xs) w (fun a' w' => ∃ v, a' = (putAll a0 l xs).put o.dst v ∧ R i ((deps l i).map fun d => xs.getD d undef) v ∧ W (fun j => j = i ∨ L j) w') (fun _ _ _ => False)) ∨
      (Region.wanted o (yielded l.toArray (putAll a0 l xs).tmps) = false ∧ R i ((deps l i).map fun d => xs.getD d undef) undef ∧ W (fun j => j = i ∨ L j) w))
    (hend : ∀ (xs : List Value) (w : World), Vals R l (fun j => j < l.length) xs → W (fun j => j < l.length) w → Q .normal (putAll a0 l xs) w) :
    (Code.region id l.toArray true).wp P Q a0 w0 := by
  refine wp_region_inv2 (fun L a w => ∃ xs, a = putAll a0 l xs ∧ Vals R l L xs ∧ W L w) hm hb ?_ ?_ ?_
  · refine ⟨(ownVals a0 l).take l.length, (putAll_own l a0 _).symm, ⟨by simp [ownVals], fun _ h => h.elim, fun _ h => h.elim, fun _ h => h.elim⟩, h0⟩
  · rintro L i a w hil hni hpre ⟨xs, rfl, hv, hw⟩
    obtain ⟨o, ho⟩ : ∃ o, l[i]? = some o := ⟨_, List.getElem?_eq_getElem hil⟩
    have hoa : l.toArray[i]? = some o := by simpa using ho
    unfold wpOp
    rw [hoa]
    dsimp only
    rcases hstep i o hil ho L xs w hv hw hni hpre with ⟨hg, hs⟩ | ⟨hg, hr, hw'⟩
    · rw [if_pos hg]
      refine .inl (wp_weaken ?_ (fun _ _ _ h => h.elim) (fun ⟨_, _, h⟩ => h.elim) hs)
      rintro a' w' ⟨v, rfl, hr, hw'⟩
      rw [putAll_put l xs a0 i o v hd ho (by rw [hv.len]; exact hil)]
      exact ⟨_, rfl, hv.step hil hni hpre hr, hw'⟩
    · rw [if_neg (by rw [hg]; decide)]
      rw [putAll_put l xs a0 i o undef hd ho (by rw [hv.len]; exact hil)]
      exact ⟨_, rfl, hv.step hil hni hpre hr, hw'⟩
  · rintro L a w hall ⟨xs, rfl, hv, hw⟩
    have he : L = fun j => j < l.length := by
      funext j
      exact propext ⟨hv.lt j, hall j⟩
    subst he
    exact hend xs w hv hw
/-- A call. -/
theorem vstep_call {R : Nat → List Value → Value → Prop} {W : (Nat → Prop) → World → Prop} {L : Nat → Prop} {o : Oper} {a : Act} {w : World} {i : Nat} {f : FuncId} {args : Array Value} {E : Ending → World → Prop} (hc : Calls P f args w E)
    (hrun : (execOp a.eval o).run P w = .ok (.enter f args) w)
    (hK : ∀ e w', E e w' → ∃ v, e = .returned v ∧ R i ((deps l i).map fun d => xs.getD d undef) v ∧ W (fun j => j = i ∨ L j) w') :
    o.wp P a w (fun a' w' => ∃ v, a' = a.put o.dst v ∧ R i ((deps l i).map fun d => xs.getD d undef) v ∧ W (fun j => j = i ∨ L j) w') (fun _ _ _ => False) :=
  op_call hrun hc fun e w' hE => let ⟨v, he, hr, hw⟩ := hK e w' hE; ⟨v, he, v, rfl, hr, hw⟩
/-- A whole row is loaded, or stored. -/
theorem vstep_lrow {R : Nat → List Value → Value → Prop} {W : (Nat → Prop) → World → Prop} {L : Nat → Prop} {o : Oper} {a : Act} {w : World} {i : Nat} (ty : TypeId) (x : Operand) (g : Nat) (t : TypeId) (cs : Array Value) (fr : Nat × Nat) (d : TypeDesc)
    (hu : P.underlying ty = some d) (hd : (match d with | .struct _ | .array _ _ => true | _ => false) = true)
    (ho : o.op = .load ty x) (hx : a.eval x = .pointer (some ⟨g, 0, none⟩)) (hg : w.heap[g]? = some (.cells cs t fr)) (hi : (P.info? ty).map (·.size) = some cs.size)
    (hr : R i ((deps l i).map fun d => xs.getD d undef) (.agg cs)) (hw : W (fun j => j = i ∨ L j) w) :
    o.wp P a w (fun a' w' => ∃ v, a' = a.put o.dst v ∧ R i ((deps l i).map fun d => xs.getD d undef) v ∧ W (fun j => j = i ∨ L j) w') (fun _ _ _ => False) :=
  Go.wp_load_row ty x ho g hx t cs fr d hg hu hd hi ⟨.agg cs, rfl, hr, hw⟩
theorem vstep_srow {R : Nat → List Value → Value → Prop} {W : (Nat → Prop) → World → Prop} {L : Nat → Prop} {o : Oper} {a : Act} {w : World} {i : Nat} (ty : TypeId) (x y : Operand) (g : Nat) (cells : Array Value) (t : TypeId) (old : Array Value)
    (ho : o.op = .store ty x y) (hx : a.eval x = .pointer (some ⟨g, 0, none⟩)) (hy : a.eval y = .agg cells)
    (hg : w.heap[g]? = some (.cells old t (0, 0))) (hi : (P.info? ty).map (·.size) = some cells.size) (hold : old.size = cells.size) (h1 : cells.all (·.oneCell') = true)
    (hr : R i ((deps l i).map fun d => xs.getD d undef) undef) (hw : W (fun j => j = i ∨ L j) (w.setRow g cells)) :
    o.wp P a w (fun a' w' => ∃ v, a' = a.put o.dst v ∧ R i ((deps l i).map fun d => xs.getD d undef) v ∧ W (fun j => j = i ∨ L j) w') (fun _ _ _ => False) :=
  Go.wp_store_row ty x y ho g cells hx hy t old hg hi hold h1 ⟨undef, rfl, hr, hw⟩
end
end Go.Proofs.YtaooibocknemkaaGreat
end
