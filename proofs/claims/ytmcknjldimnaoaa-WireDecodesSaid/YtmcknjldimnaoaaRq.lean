/-
  WireDecodes: the walk. Conditions: none.
-/
import Derived.Test.YtmcknjldimnaoaaRk
import Derived.Test.YtmcknjldimnaoaaRl
namespace Go.Proofs.Ytmcknjldimnaoaa
open Go.RowKit Go.BigFrame
set_option linter.unusedVariables false
set_option linter.unusedSimpArgs false

set_option maxRecDepth 100000 in
set_option maxHeartbeats 4000000 in
theorem wireDecodes_walk (s0 : ByteArray) (w : World) (hs0 : s0.size ≤ 9223372036854775807) : Calls Try.prog 6 #[.string s0] w (BIs true w) := by
  obtain ⟨m, hm⟩ : ∃ m, m = min s0.size 1000 := ⟨_, rfl⟩
  have hmn : min (s0.size : Int) 1000 = (m : Int) := by omega
  have hm0 : (0 : Int) ≤ (m : Int) := by omega
  have hm1 : (m : Int) ≤ (s0.size : Int) := by omega
  obtain ⟨s, hs⟩ : ∃ s, s = s0.extract 0 m := ⟨_, rfl⟩
  have hss : s.size ≤ 1000 := by rw [hs, ByteArray.size_extract]; omega
  have hq := fun y => decode_any s y (by omega)
  have hq2 := fun y => rdecode_any s y (by omega)
  obtain ⟨t, n, c, hd⟩ : ∃ t n c, decZ s.data.toList = (t, n, c) := ⟨_, _, _, rfl⟩
  rw [hd] at hq hq2
  have HQ := Lib.hid hq
  have HQ2 := Lib.hid hq2
  have HS0 := Lib.hid (fun (v v' : Value) (y : World) (h1 : TxAt y v t) (h2 : TxAt y v' t) => (same_yes (t := t) (u := t) rfl ▸ same_any v v' t t y h1 h2 : Calls Try.prog 30 #[v, v'] y (BIs true y)))
  clear hm hq hq2 hd
  go_enter Try.func6, Try.ntmps6
  go_upto_region 2 with fail
  rw [← hs]
  clear hs hmn hm0 hm1
  go_wp2_with fail
  refine (HQ.out w).mono ?_
  rintro e w1 ⟨v, rfl, hown, hb⟩
  have htx := hown.tx
  obtain ⟨va, vo, rfl, ha, ho, -, -⟩ := id htx
  obtain ⟨a1, c1, rfl, -, -⟩ := ha.shape
  obtain ⟨a2, c2, rfl, -, -⟩ := ho.shape
  have HT := Lib.hid htx
  have HB := Lib.hid hb
  obtain ⟨n1, hn1⟩ : ∃ n, n = t.ins.length := ⟨_, rfl⟩
  obtain ⟨n2, hn2⟩ : ∃ n, n = t.outs.length := ⟨_, rfl⟩
  rw [← hn1, ← hn2] at HT ⊢
  have HN := Lib.hid (And.intro hn1 hn2)
  clear hb hown ha ho htx HQ hn1 hn2
  go_upto_region 3 with fail
  have hz := heap_alloc_new w1 (.cells #[.int .u32 t.ver, .slice a1 n1 c1, .slice a2 n2 c2, .int .u32 t.lock] 26)
  have hal : Below w1.heap.size w1 (w1.alloc (.cells #[.int .u32 t.ver, .slice a1 n1 c1, .slice a2 n2 c2, .int .u32 t.lock] 26)) := (Below.refl _ _).alloc (Nat.le_refl _) _
  obtain ⟨Y, hY⟩ : ∃ q, q = w1.heap.size := ⟨_, rfl⟩
  rw [← hY] at hz ⊢
  generalize w1.alloc (.cells #[.int .u32 t.ver, .slice a1 n1 c1, .slice a2 n2 c2, .int .u32 t.lock] 26) = w2 at *
  have u0 : w2.cell? ⟨Y, 0, none⟩ = some (.int .u32 t.ver) := cell_at hz
  have u1 : w2.cell? ⟨Y, 1, none⟩ = some (.slice a1 n1 c1) := cell_at hz
  have u2 : w2.cell? ⟨Y, 2, none⟩ = some (.slice a2 n2 c2) := cell_at hz
  have u3 : w2.cell? ⟨Y, 3, none⟩ = some (.int .u32 t.lock) := cell_at hz
  have HT := Lib.hid (HT.out.below hal)
  have HB := Lib.hid (HB.out.trans (hal.mono HB.out.size))
  clear hz hal hY
  go_wp2_with fail
  refine (HQ2.out w2).mono ?_
  rintro e w3 ⟨v, rfl, hown, hb⟩
  have htx := hown.tx
  obtain ⟨va, vo, rfl, ha, ho, -, -⟩ := id htx
  obtain ⟨a3, c3, rfl, -, -⟩ := ha.shape
  obtain ⟨a4, c4, rfl, -, -⟩ := ho.shape
  have HT2 := Lib.hid htx
  rw [← HN.out.1, ← HN.out.2] at HT2 ⊢
  replace u0 := below_cells hb _ _ u0
  replace u1 := below_cells hb _ _ u1
  replace u2 := below_cells hb _ _ u2
  replace u3 := below_cells hb _ _ u3
  have HB := Lib.hid (HB.out.trans (hb.mono HB.out.size))
  have HT := Lib.hid (HT.out.below hb)
  clear hb hown ha ho htx HQ2
  go_upto_region 4 with fail
  have hz := heap_alloc_new w3 (.cells #[.int .u32 t.ver, .slice a3 n1 c3, .slice a4 n2 c4, .int .u32 t.lock] 26)
  have hal : Below w3.heap.size w3 (w3.alloc (.cells #[.int .u32 t.ver, .slice a3 n1 c3, .slice a4 n2 c4, .int .u32 t.lock] 26)) := (Below.refl _ _).alloc (Nat.le_refl _) _
  obtain ⟨Y2, hY2⟩ : ∃ q, q = w3.heap.size := ⟨_, rfl⟩
  rw [← hY2] at hz ⊢
  generalize w3.alloc (.cells #[.int .u32 t.ver, .slice a3 n1 c3, .slice a4 n2 c4, .int .u32 t.lock] 26) = w4 at *
  have v0 : w4.cell? ⟨Y2, 0, none⟩ = some (.int .u32 t.ver) := cell_at hz
  have v1 : w4.cell? ⟨Y2, 1, none⟩ = some (.slice a3 n1 c3) := cell_at hz
  have v2 : w4.cell? ⟨Y2, 2, none⟩ = some (.slice a4 n2 c4) := cell_at hz
  have v3 : w4.cell? ⟨Y2, 3, none⟩ = some (.int .u32 t.lock) := cell_at hz
  have hb := hal
  replace u0 := below_cells hb _ _ u0
  replace u1 := below_cells hb _ _ u1
  replace u2 := below_cells hb _ _ u2
  replace u3 := below_cells hb _ _ u3
  have HB := Lib.hid (HB.out.trans (hb.mono HB.out.size))
  have HT := Lib.hid (HT.out.below hb)
  have HT2 := Lib.hid (HT2.out.below hb)
  clear hz hal hY2 hb
  go_wp2_with fail
  refine (wakes6_any w4).mono ?_
  rintro e w5 ⟨rfl, hb⟩
  replace u0 := below_cells hb _ _ u0
  replace u1 := below_cells hb _ _ u1
  replace u2 := below_cells hb _ _ u2
  replace u3 := below_cells hb _ _ u3
  replace v0 := below_cells hb _ _ v0
  replace v1 := below_cells hb _ _ v1
  replace v2 := below_cells hb _ _ v2
  replace v3 := below_cells hb _ _ v3
  have HB := Lib.hid (HB.out.trans (hb.mono HB.out.size))
  have HT := Lib.hid (HT.out.below hb)
  have HT2 := Lib.hid (HT2.out.below hb)
  clear hb
  go_wp2_with fail
  refine (HS0.out _ _ w5 HT.out HT2.out).mono ?_
  rintro e w6 ⟨rfl, hb⟩
  have HB := Lib.hid (HB.out.trans (hb.mono HB.out.size))
  clear hb
  go_wp2_with fail
  go_ret
  exact ⟨rfl, HB.out⟩
end Go.Proofs.Ytmcknjldimnaoaa
