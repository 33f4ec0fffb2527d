/-
  RecTorn: its walk. Conditions: none.
-/
import Derived.Test.YtaooibocknemkaaQ13RecBack
import Derived.Test.YtaooibocknemkaaEv0
import Derived.Laws.IdiomStrings
namespace Go.Proofs.Ytaooibocknemkaa
open Go.RowKit Go.BigFrame
set_option linter.unusedVariables false
set_option linter.unusedSimpArgs false
theorem cell_set_same {w : World} {b j : Nat} {v : Value} (h : w.cell? ⟨b, j, none⟩ = some v) (u : Value) : (w.setCell ⟨b, j, none⟩ u).cell? ⟨b, j, none⟩ = some u := by
  unfold World.cell? at h ⊢
  unfold World.setCell
  dsimp only at h ⊢
  cases hb : w.heap[b]? with
  | none => rw [hb] at h; cases h
  | some ob =>
    rw [hb] at h
    cases ob with
    | cells c t f =>
      obtain ⟨hlt, hv⟩ := Array.getElem?_eq_some_iff.1 hb
      have hj : j < c.size := (Array.getElem?_eq_some_iff.1 (by simpa using h : c[j]? = some v)).1
      rw [Array.getElem?_eq_getElem (by simpa using hlt), Array.getElem_modify]
      simp [hv, hj]
    | _ => simp at h
theorem cell_set_ne (w : World) {b i j : Nat} {u : Value} (h : j ≠ i) : (w.setCell ⟨b, i, none⟩ u).cell? ⟨b, j, none⟩ = w.cell? ⟨b, j, none⟩ := by
  exact World.cell?_setCell_other w _ _ u (by intro e; injection e with e1 e2; exact h (by first | exact e2.symm | exact e2))
theorem bytes_box {w : World} {s : ByteArray} {cap : Nat} {e : TypeId} (hcap : s.size ≤ cap) :
    Below w.heap.size w (w.alloc (.cells (bytesRow s cap) e ((bytesRow s cap).size, (bytesRow s cap).size + 1))).drew ∧
    (∀ j x, s.data.toList[j]? = some x → (w.alloc (.cells (bytesRow s cap) e ((bytesRow s cap).size, (bytesRow s cap).size + 1))).drew.cell? ⟨w.heap.size, j, none⟩ = some (.int .u8 (x.toNat : Int))) ∧
    (∀ j, j < s.size → (w.alloc (.cells (bytesRow s cap) e ((bytesRow s cap).size, (bytesRow s cap).size + 1))).drew.frozen? ⟨w.heap.size, j, none⟩ = false) := by
  have hz : (w.alloc (.cells (bytesRow s cap) e ((bytesRow s cap).size, (bytesRow s cap).size + 1))).drew.heap[w.heap.size]? = some (.cells (bytesRow s cap) e ((bytesRow s cap).size, (bytesRow s cap).size + 1)) := heap_alloc_new w _
  refine ⟨((Below.refl _ _).alloc (Nat.le_refl _) _).drew, fun j x hx => ?_, fun j hj => ?_⟩
  · have hj : j < s.data.size := by have := (List.getElem?_eq_some_iff.1 hx).1; simpa using this
    have hr := bytesRow_at s cap j hj
    have e1 : s.data[j] = x := by have := (List.getElem?_eq_some_iff.1 hx).2; simpa using this
    rw [e1] at hr
    unfold World.cell?
    dsimp only
    rw [hz]
    exact hr
  · have hr := (Array.getElem?_eq_some_iff.1 (bytesRow_at s cap j hj)).1
    unfold World.frozen?
    dsimp only
    rw [hz]
    simp
    omega
theorem getL_cut {r : PRec} (hc : checkR r = 0) {c : Nat} (h : c < (putL r).length) : getL ((putL r).take c) 0 = (noRec, 0, 5) := by
  unfold getL
  rw [List.drop_zero, getQ_cut hc h]
  rfl
theorem getL_turn {r : PRec} (hc : checkR r = 0) {k : Nat} {x y : UInt8} (hk : 4 ≤ k) (hx : (putL r)[k]? = some x) (hxy : x ≠ y) : getL ((putL r).set k y) 0 = (noRec, 0, 19) := by
  unfold getL
  rw [List.drop_zero, getQ_turn hc hk hx hxy]
  rfl
set_option maxRecDepth 100000 in
set_option maxHeartbeats 8000000 in
theorem recTorn_walk (v0 : Value) (z : PSml) (ci ti : Int) (w : World) (h0 : SmlV w v0 z) (hs1 : (Lit.int .u16 ci).wf = true) (hs2 : (Lit.int .u8 ti).wf = true) : Calls Try.prog 5 #[v0, .int .u16 ci, .int .u8 ti] w (fun e w' => e = .returned (.bool true) ∧ Below w.heap.size w w') := by
  have hb1 := wf_u16 hs1
  have hb2 := wf_u8q hs2
  obtain ⟨cu, rfl⟩ : ∃ n : Nat, ci = n := ⟨ci.toNat, by omega⟩
  obtain ⟨tu, rfl⟩ : ∃ n : Nat, ti = n := ⟨ti.toNat, by omega⟩
  have hcu : cu < 65536 := by omega
  have htu : tu < 256 := by omega
  clear hs1 hs2 hb1 hb2
  have HS := Lib.hid h0
  obtain ⟨va, vb, vc, vd, rfl, h1, h2, h3, h4, hk⟩ := h0
  obtain ⟨xa, xc, rfl, -, -⟩ := h1.shape
  obtain ⟨ya, yc, rfl, -, -⟩ := h2.shape
  obtain ⟨za, zc, rfl, -, -⟩ := h3.shape
  obtain ⟨ta, tc, rfl, -, -⟩ := h4.shape
  obtain ⟨k1, hk1⟩ : ∃ n, n = z.tx.ins.length := ⟨_, rfl⟩
  obtain ⟨k2, hk2⟩ : ∃ n, n = z.tx.outs.length := ⟨_, rfl⟩
  obtain ⟨k3, hk3⟩ : ∃ n, n = z.raw.tx.ins.length := ⟨_, rfl⟩
  obtain ⟨k4, hk4⟩ : ∃ n, n = z.raw.tx.outs.length := ⟨_, rfl⟩
  rw [← hk1, ← hk2, ← hk3, ← hk4] at HS
  rw [← hk1, ← hk2, ← hk3, ← hk4]
  clear hk1 hk2 hk3 hk4 h1 h2 h3 h4 hk
  unfold smlCells at HS ⊢
  have HCU := Lib.hid hcu
  have HTU := Lib.hid htu
  clear hcu htu
  go_enter Try.func5, Try.ntmps5
  go_upto_region 1 with fail
  have hz := heap_alloc_new w (.cells #[.int .u8 z.kind, .int .u8 z.num, .int .u32 z.tx.ver, .slice xa k1 xc, .slice ya k2 yc, .int .u32 z.tx.lock, .int .u8 z.index, .int .u8 z.br, .int .u16 z.tag, .int .u16 z.delay, .int .u32 z.height, .int .u8 z.point, .int .u32 z.val, .int .u32 z.budget, .int .u32 z.fee, .int .u16 z.dead, .int .u16 z.start, .int .i64 z.raw.kind, .int .i64 z.raw.num, .int .u32 z.raw.tx.ver, .slice za k3 zc, .slice ta k4 tc, .int .u32 z.raw.tx.lock, .int .i64 z.raw.index, .string z.raw.id, .int .u32 z.raw.idx, .int .i64 z.raw.val, .int .i64 z.raw.br, .int .u16 z.raw.tag, .int .u16 z.raw.delay, .int .u32 z.raw.height, .int .i64 z.raw.dead, .int .i64 z.raw.budget, .int .i64 z.raw.start, .int .i64 z.raw.fee, .bool z.odd] 40)
  have hal : Below w.heap.size w (w.alloc (.cells #[.int .u8 z.kind, .int .u8 z.num, .int .u32 z.tx.ver, .slice xa k1 xc, .slice ya k2 yc, .int .u32 z.tx.lock, .int .u8 z.index, .int .u8 z.br, .int .u16 z.tag, .int .u16 z.delay, .int .u32 z.height, .int .u8 z.point, .int .u32 z.val, .int .u32 z.budget, .int .u32 z.fee, .int .u16 z.dead, .int .u16 z.start, .int .i64 z.raw.kind, .int .i64 z.raw.num, .int .u32 z.raw.tx.ver, .slice za k3 zc, .slice ta k4 tc, .int .u32 z.raw.tx.lock, .int .i64 z.raw.index, .string z.raw.id, .int .u32 z.raw.idx, .int .i64 z.raw.val, .int .i64 z.raw.br, .int .u16 z.raw.tag, .int .u16 z.raw.delay, .int .u32 z.raw.height, .int .i64 z.raw.dead, .int .i64 z.raw.budget, .int .i64 z.raw.start, .int .i64 z.raw.fee, .bool z.odd] 40)) := (Below.refl _ _).alloc (Nat.le_refl _) _
  obtain ⟨X, hX⟩ : ∃ q, q = w.heap.size := ⟨_, rfl⟩
  rw [← hX] at hz ⊢
  generalize w.alloc (.cells #[.int .u8 z.kind, .int .u8 z.num, .int .u32 z.tx.ver, .slice xa k1 xc, .slice ya k2 yc, .int .u32 z.tx.lock, .int .u8 z.index, .int .u8 z.br, .int .u16 z.tag, .int .u16 z.delay, .int .u32 z.height, .int .u8 z.point, .int .u32 z.val, .int .u32 z.budget, .int .u32 z.fee, .int .u16 z.dead, .int .u16 z.start, .int .i64 z.raw.kind, .int .i64 z.raw.num, .int .u32 z.raw.tx.ver, .slice za k3 zc, .slice ta k4 tc, .int .u32 z.raw.tx.lock, .int .i64 z.raw.index, .string z.raw.id, .int .u32 z.raw.idx, .int .i64 z.raw.val, .int .i64 z.raw.br, .int .u16 z.raw.tag, .int .u16 z.raw.delay, .int .u32 z.raw.height, .int .i64 z.raw.dead, .int .i64 z.raw.budget, .int .i64 z.raw.start, .int .i64 z.raw.fee, .bool z.odd] 40) = w0 at *
  have HZ := Lib.hid hz
  have HB := Lib.hid hal
  have HMK := Lib.hid (rmake_any _ z w0 (HS.out.below hal))
  clear hz hal hX HS
  go_wp2_with (refine wpList_load_row rfl 40 (.tmp 3) rfl X rfl 40 #[.int .u8 z.kind, .int .u8 z.num, .int .u32 z.tx.ver, .slice xa k1 xc, .slice ya k2 yc, .int .u32 z.tx.lock, .int .u8 z.index, .int .u8 z.br, .int .u16 z.tag, .int .u16 z.delay, .int .u32 z.height, .int .u8 z.point, .int .u32 z.val, .int .u32 z.budget, .int .u32 z.fee, .int .u16 z.dead, .int .u16 z.start, .int .i64 z.raw.kind, .int .i64 z.raw.num, .int .u32 z.raw.tx.ver, .slice za k3 zc, .slice ta k4 tc, .int .u32 z.raw.tx.lock, .int .i64 z.raw.index, .string z.raw.id, .int .u32 z.raw.idx, .int .i64 z.raw.val, .int .i64 z.raw.br, .int .u16 z.raw.tag, .int .u16 z.raw.delay, .int .u32 z.raw.height, .int .i64 z.raw.dead, .int .i64 z.raw.budget, .int .i64 z.raw.start, .int .i64 z.raw.fee, .bool z.odd] (0, 0) _ HZ.out Try.underlying40 rfl (by kernel_rfl) ?_)
  refine HMK.out.mono ?_
  rintro e w1 ⟨v, r, rfl, hr, hout, hb⟩
  have HAT := Lib.hid hr.at_
  have HOUT := Lib.hid hout
  have HB := Lib.hid (HB.out.trans (hb.mono HB.out.size))
  clear hb HMK HZ hout hr
  obtain ⟨sr, hsr⟩ : ∃ s, s = putE r := ⟨_, rfl⟩
  obtain ⟨cr, hcr⟩ : ∃ c, c = checkR r := ⟨_, rfl⟩
  have PR := Lib.hid (show Calls Try.prog 12 #[v] w1 (fun e w' => e = .returned (.tuple #[.string sr, .int .i64 cr]) ∧ Below w1.heap.size w1 w') from by have h2 := recput_any _ r w1 HAT.out HOUT.out; rw [← hcr, ← hsr] at h2; exact h2)
  go_wp2_with fail
  refine PR.out.mono ?_
  rintro e w2 ⟨rfl, hb⟩
  have HB := Lib.hid (HB.out.trans (hb.mono HB.out.size))
  clear hb PR
  by_cases hc : cr = 0
  rotate_left
  · have hc2 : (cr == 0) = false := by rw [beq_eq_false_iff_ne]; exact hc
    clear hsr hcr
    go_wp2_with fail
    refine (wakes26_any w2).mono ?_
    rintro e w3 ⟨rfl, hb⟩
    have HB := Lib.hid (HB.out.trans (hb.mono HB.out.size))
    clear hb
    go_wp2_with fail
    go_ret
    exact ⟨rfl, HB.out⟩
  have hck : checkR r = 0 := by rw [← hcr]; exact hc
  have hpl := payL_le hck
  have hptl := putL_len r
  have hsd : sr.data.toList = putL r := by rw [hsr]; exact putE_zero hck
  have hsl : sr.size = (putL r).length := by rw [← hsd, data_len]
  obtain ⟨N, hN⟩ : ∃ n, n = (putL r).length := ⟨_, rfl⟩
  rw [← hN] at hsl hptl
  have hNl : 13 ≤ N ∧ N ≤ 150113 := by omega
  obtain ⟨kp, hkp⟩ : ∃ k, k = cu % N := ⟨_, rfl⟩
  obtain ⟨kq, hkq⟩ : ∃ k, k = cu % (N - 4) := ⟨_, rfl⟩
  have hkpN : kp < N := by rw [hkp]; exact Nat.mod_lt _ (by omega)
  have hkqN : kq < N - 4 := by rw [hkq]; exact Nat.mod_lt _ (by omega)
  obtain ⟨x, hx⟩ : ∃ x, (putL r)[4 + kq]? = some x := ⟨_, List.getElem?_eq_getElem (by omega)⟩
  obtain ⟨y, hy, hyx⟩ := xor8 x tu HTU.out
  obtain ⟨L2, hL2⟩ : ∃ l, l = (putL r).set (4 + kq) y := ⟨_, rfl⟩
  have hL2l : L2.length = N := by rw [hL2, List.length_set, hN]
  have hne : ¬ sr.toList = [] := by
    have h5 : sr ≠ ⟨#[]⟩ := fun e => by rw [e] at hsl; have : (⟨#[]⟩ : ByteArray).size = 0 := rfl; omega
    have h1 := bytes_ne h5; intro e; rw [e, show (⟨#[]⟩ : ByteArray).toList = [] from by unfold ByteArray.toList; unfold ByteArray.toList.loop; rfl] at h1; exact absurd h1 (by decide)
  have hne2 : (sr.toList == []) = false := by rw [beq_eq_false_iff_ne]; exact hne
  have hne3 : sr.toList.isEmpty = false := by cases h : sr.toList with | nil => exact absurd h hne | cons => rfl
  obtain ⟨s1, hs1⟩ : ∃ s, s = sr.extract 0 kp := ⟨_, rfl⟩
  have G1 := Lib.hid (show ∀ y : World, Calls Try.prog 11 #[.string s1, .int .i64 0] y (GetRIs (noRec, 0, 5) y) from fun y => by
    have h2 := recget_any s1 0 y (by rw [hs1, ByteArray.size_extract]; omega) (Nat.zero_le _)
    rw [hs1, extract_take, hsd, getL_cut hck (by omega)] at h2
    rw [hs1]; exact h2)
  obtain ⟨s2, hs2⟩ : ∃ s : ByteArray, s = ⟨L2.toArray⟩ := ⟨_, rfl⟩
  have hs2d : s2.data.toList = L2 := by rw [hs2]
  have hs2s : s2.size = N := by rw [← data_len, hs2d, hL2l]
  obtain ⟨⟨q, n, er⟩, hg⟩ : ∃ g, g = getL L2 0 := ⟨_, rfl⟩
  have G2 := Lib.hid (show ∀ y : World, Calls Try.prog 11 #[.string s2, .int .i64 0] y (GetRIs (q, n, er) y) from fun y => by
    have h2 := recget_any s2 0 y (by omega) (Nat.zero_le _)
    rw [hs2d, ← hg] at h2
    exact h2)
  have hend : tu ≠ 0 → er = 19 ∧ n = 0 := fun h => by
    rw [hL2, getL_turn hck (by omega) hx (hyx h)] at hg
    exact ⟨(Prod.mk.inj (Prod.mk.inj hg).2).2, (Prod.mk.inj (Prod.mk.inj hg).2).1⟩
  have HEND := Lib.hid hend
  have HSET := Lib.hid (show ∀ j (hj : j < L2.length), L2[j]? = if 4 + kq = j then some y else sr.data.toList[j]? from fun j hj => by
    rw [hL2, hsd, List.getElem?_set]
    by_cases h : 4 + kq = j
    · rw [if_pos h, if_pos h, if_pos (by omega)]
    · rw [if_neg h, if_neg h])
  have hxs : sr.data.toList[4 + kq]? = some x := by rw [hsd]; exact hx
  have HXS := Lib.hid hxs
  have HS2 := Lib.hid hs2
  have HL2 := Lib.hid hL2l
  have f1 : (sr.size : Int) = (N : Int) := by omega
  have f2 : (cu : Int).tmod (N : Int) = (kp : Int) := by rw [Int.tmod_eq_emod_of_nonneg (by omega), hkp]; rfl
  obtain ⟨N4, hN4⟩ : ∃ n, n = N - 4 := ⟨_, rfl⟩
  have f3 : (N : Int) - 4 = (N4 : Int) := by omega
  have f4 : IntKind.i64.wrap (N4 : Int) = (N4 : Int) := by rw [IntKind.wrap_i64]; omega
  have f5 : (cu : Int).tmod (N4 : Int) = (kq : Int) := by rw [Int.tmod_eq_emod_of_nonneg (by omega), hkq, hN4]; rfl
  obtain ⟨kk, hkk⟩ : ∃ n, n = 4 + kq := ⟨_, rfl⟩
  have f6 : (4 : Int) + (kq : Int) = (kk : Int) := by omega
  have f7 : IntKind.i64.wrap (kk : Int) = (kk : Int) := by rw [IntKind.wrap_i64]; omega
  have f8 : IntKind.i64.wrap (kp : Int) = (kp : Int) := by rw [IntKind.wrap_i64]; omega
  have f9 : IntKind.i64.wrap (kq : Int) = (kq : Int) := by rw [IntKind.wrap_i64]; omega
  have f0 : IntKind.i64.wrap (cu : Int) = (cu : Int) := by rw [IntKind.wrap_i64]; have := HCU.out; omega
  have g1 : ¬ (N : Int) = 0 := by omega
  have g2 : ((N : Int) == 0) = false := by rw [beq_eq_false_iff_ne]; exact g1
  have g3 : ¬ (N4 : Int) = 0 := by omega
  have g4 : ((N4 : Int) == 0) = false := by rw [beq_eq_false_iff_ne]; exact g3
  have g5 : (0 : Int) ≤ (kp : Int) := by omega
  have g6 : (kp : Int) ≤ (sr.size : Int) := by omega
  have g7 : (0 : Int) ≤ (kk : Int) := by omega
  have g8 : (kk : Int) < (sr.size : Int) := by omega
  have HKK := Lib.hid hkk
  have HN := Lib.hid (show sr.size = N ∧ kk < N from by omega)
  have HS1 := Lib.hid hs1
  rw [hs1] at G1
  subst hc
  clear hsr hcr hck hpl hptl hsd hsl hN hNl hkp hkq hkpN hkqN hx hyx hL2 hL2l hs1 hs2 hs2d hs2s hg hend hxs hN4 hkk
  have HY := Lib.hid hy
  clear hy
  go_wp2_with fail
  refine (G1.out w2).mono ?_
  rintro e w3 ⟨v, rfl, hq, hb⟩
  dsimp only at hq
  dsimp only
  have HB := Lib.hid (HB.out.trans (hb.mono HB.out.size))
  clear hb G1 HAT HOUT
  obtain ⟨q0, hq0⟩ : ∃ q : PRec, q = noRec := ⟨_, rfl⟩
  rw [← hq0] at hq
  clear hq0
  obtain ⟨sa, sb, rfl, hto, hsk⟩ := hq
  have hsa := hto.at_.1
  have hsb := hto.at_.2
  obtain ⟨ja, jc, rfl, -, -⟩ := hsa.shape
  obtain ⟨qa, qc, rfl, -, -⟩ := hsb.shape
  obtain ⟨n3, hn1⟩ : ∃ n, n = q0.tx.ins.length := ⟨_, rfl⟩
  obtain ⟨n4, hn2⟩ : ∃ n, n = q0.tx.outs.length := ⟨_, rfl⟩
  have HAT := Lib.hid (show RecAt w3 (.agg #[.int .i64 q0.kind, .int .i64 q0.num, .int .u32 q0.tx.ver, .slice ja n3 jc, .slice qa n4 qc, .int .u32 q0.tx.lock, .int .i64 q0.index, .string q0.id, .int .u32 q0.idx, .int .i64 q0.val, .int .i64 q0.br, .int .u16 q0.tag, .int .u16 q0.delay, .int .u32 q0.height, .int .i64 q0.dead, .int .i64 q0.budget, .int .i64 q0.start, .int .i64 q0.fee]) q0 from by rw [hn1, hn2]; exact ⟨_, _, rfl, hsa, hsb, hsk⟩)
  rw [← hn1, ← hn2]
  clear hsa hsb hsk hn1 hn2 hto
  clear HAT
  have HNW := Lib.hid (heap_alloc_new w3 (.cells #[.int .i64 0, .int .i64 0, .int .u32 0, .slice none 0 0, .slice none 0 0, .int .u32 0, .int .i64 0, .string ⟨#[]⟩, .int .u32 0, .int .i64 0, .int .i64 0, .int .u16 0, .int .u16 0, .int .u32 0, .int .i64 0, .int .i64 0, .int .i64 0, .int .i64 0] 38))
  have HNR := Lib.hid (setRow_heap (w3.alloc (.cells #[.int .i64 0, .int .i64 0, .int .u32 0, .slice none 0 0, .slice none 0 0, .int .u32 0, .int .i64 0, .string ⟨#[]⟩, .int .u32 0, .int .i64 0, .int .i64 0, .int .u16 0, .int .u16 0, .int .u32 0, .int .i64 0, .int .i64 0, .int .i64 0, .int .i64 0] 38)) w3.heap.size _ #[.int .i64 q0.kind, .int .i64 q0.num, .int .u32 q0.tx.ver, .slice ja n3 jc, .slice qa n4 qc, .int .u32 q0.tx.lock, .int .i64 q0.index, .string q0.id, .int .u32 q0.idx, .int .i64 q0.val, .int .i64 q0.br, .int .u16 q0.tag, .int .u16 q0.delay, .int .u32 q0.height, .int .i64 q0.dead, .int .i64 q0.budget, .int .i64 q0.start, .int .i64 q0.fee] _ _ HNW.out)
  have HAL := Lib.hid (show Below w3.heap.size w3 ((w3.alloc (.cells #[.int .i64 0, .int .i64 0, .int .u32 0, .slice none 0 0, .slice none 0 0, .int .u32 0, .int .i64 0, .string ⟨#[]⟩, .int .u32 0, .int .i64 0, .int .i64 0, .int .u16 0, .int .u16 0, .int .u32 0, .int .i64 0, .int .i64 0, .int .i64 0, .int .i64 0] 38)).setRow w3.heap.size #[.int .i64 q0.kind, .int .i64 q0.num, .int .u32 q0.tx.ver, .slice ja n3 jc, .slice qa n4 qc, .int .u32 q0.tx.lock, .int .i64 q0.index, .string q0.id, .int .u32 q0.idx, .int .i64 q0.val, .int .i64 q0.br, .int .u16 q0.tag, .int .u16 q0.delay, .int .u32 q0.height, .int .i64 q0.dead, .int .i64 q0.budget, .int .i64 q0.start, .int .i64 q0.fee]) from below_rowE ((Below.refl _ _).alloc (Nat.le_refl _) _) (Nat.le_refl _) _)
  go_upto_region 5 with (refine wpList_store_row rfl 38 (.tmp 9) (.tmp 38) rfl w3.heap.size #[.int .i64 q0.kind, .int .i64 q0.num, .int .u32 q0.tx.ver, .slice ja n3 jc, .slice qa n4 qc, .int .u32 q0.tx.lock, .int .i64 q0.index, .string q0.id, .int .u32 q0.idx, .int .i64 q0.val, .int .i64 q0.br, .int .u16 q0.tag, .int .u16 q0.delay, .int .u32 q0.height, .int .i64 q0.dead, .int .i64 q0.budget, .int .i64 q0.start, .int .i64 q0.fee] rfl rfl 38 _ HNW.out (by kernel_rfl) rfl (by kernel_rfl) ?_)
  clear HNW
  obtain ⟨U, hV⟩ : ∃ q, q = w3.heap.size := ⟨_, rfl⟩
  rw [← hV]
  have hz := HNR.out
  have hal := HAL.out
  clear HNR HAL
  rw [← hV] at hz hal
  generalize (w3.alloc (.cells #[.int .i64 0, .int .i64 0, .int .u32 0, .slice none 0 0, .slice none 0 0, .int .u32 0, .int .i64 0, .string ⟨#[]⟩, .int .u32 0, .int .i64 0, .int .i64 0, .int .u16 0, .int .u16 0, .int .u32 0, .int .i64 0, .int .i64 0, .int .i64 0, .int .i64 0] 38)).setRow U #[.int .i64 q0.kind, .int .i64 q0.num, .int .u32 q0.tx.ver, .slice ja n3 jc, .slice qa n4 qc, .int .u32 q0.tx.lock, .int .i64 q0.index, .string q0.id, .int .u32 q0.idx, .int .i64 q0.val, .int .i64 q0.br, .int .u16 q0.tag, .int .u16 q0.delay, .int .u32 q0.height, .int .i64 q0.dead, .int .i64 q0.budget, .int .i64 q0.start, .int .i64 q0.fee] = w4 at *
  rw [hV] at hal
  have HU := Lib.hid hz
  have HB := Lib.hid (HB.out.trans (hal.mono HB.out.size))
  clear hz hal hV
  clear HU
  have HB4 := HB
  have hbox := bytes_box (w := w4) (s := sr) (cap := grownCap w4 sr.size 0 5) (e := 5) (grownCap_ge _ _ _ _)
  have HBX := Lib.hid hbox
  clear hbox
  go_upto_region 6 with (refine wpList_convert_run rfl (.tmp 41) 9 49 rfl rfl (run_bytes_of_string w4 _ _ _ sr Try.underlying9 Try.underlying49 Try.underlying5) ?_)
  have hbox := HBX.out
  clear HBX
  generalize (w4.alloc (.cells (bytesRow sr (grownCap w4 sr.size 0 5)) 5 ((bytesRow sr (grownCap w4 sr.size 0 5)).size, (bytesRow sr (grownCap w4 sr.size 0 5)).size + 1))).drew = w5 at *
  generalize grownCap w4 sr.size 0 5 = cap at *
  obtain ⟨B, hB⟩ : ∃ q, q = w4.heap.size := ⟨_, rfl⟩
  rw [← hB]
  rw [← hB] at hbox
  obtain ⟨hbb, hbc, hbf⟩ := hbox
  have HB := Lib.hid (HB.out.trans ((show Below w4.heap.size w4 w5 from by rw [← hB]; exact hbb).mono HB.out.size))
  have HBW := Lib.hid (show w.heap.size ≤ B from by rw [hB]; exact HB4.out.size)
  have HBC := Lib.hid hbc
  have HBF := Lib.hid hbf
  have d1 : w5.cell? ⟨B, kk, none⟩ = some (.int .u8 (x.toNat : Int)) := by rw [HKK.out]; exact hbc _ _ HXS.out
  have d2 : w5.frozen? ⟨B, kk, none⟩ = false := hbf kk (by have := HN.out; omega)
  have hy := HY.out
  clear hbb hbc hbf hB
  have HC6 := Lib.hid (show ∀ j (hj : j < L2.length), (w5.setCell ⟨B, kk, none⟩ (.int .u8 (y.toNat : Int))).cell? ((⟨B, 0, none⟩ : Addr).add j) = some (.int .u8 ((L2[j]'hj).toNat : Int)) from fun j hj => by
    have h1 := HSET.out j hj
    rw [List.getElem?_eq_getElem hj, ← HKK.out] at h1
    rw [Addr.add_mid, Nat.zero_add]
    by_cases h : kk = j
    · subst h
      rw [if_pos rfl] at h1
      rw [Option.some.inj h1]
      exact cell_set_same d1 _
    · rw [if_neg h] at h1
      rw [cell_set_ne w5 (fun e => h e.symm)]
      exact HBC.out j _ h1.symm)
  have HB := Lib.hid (HB.out.setCell (p := ⟨B, kk, none⟩) HBW.out (.int .u8 (y.toNat : Int)))
  go_upto_region 7 with fail
  generalize w5.setCell ⟨B, kk, none⟩ (.int .u8 (y.toNat : Int)) = w6 at *
  clear d1 d2 hy HBC HBF HBW HSET HXS HY
  have HCV := Lib.hid (show (convert 49 9 (.slice (some ⟨B, 0, none⟩) sr.size cap)).run Try.prog w6 = .ok (.string s2) w6 from by
    have h := run_convert_bytes_back (P := Try.prog) w6 49 9 5 ⟨B, 0, none⟩ cap L2 Try.underlying49 Try.underlying5 Try.underlying9 HC6.out
    rw [HL2.out, ← HN.out.1] at h
    rw [HS2.out]
    exact h)
  clear HC6 HL2 HS2 HKK
  go_wp2_with (refine wpList_convert_run rfl (.tmp 57) 49 9 rfl rfl HCV.out ?_)
  refine (G2.out w6).mono ?_
  rintro e w7 ⟨v, rfl, hq, hb⟩
  dsimp only at hq
  dsimp only
  have HB := Lib.hid (HB.out.trans (hb.mono HB.out.size))
  clear hb G2 HCV HN
  obtain ⟨sa, sb, rfl, hto, hsk⟩ := hq
  have hsa := hto.at_.1
  have hsb := hto.at_.2
  obtain ⟨ba, bc, rfl, -, -⟩ := hsa.shape
  obtain ⟨da, dc, rfl, -, -⟩ := hsb.shape
  obtain ⟨n5, hn1⟩ : ∃ n, n = q.tx.ins.length := ⟨_, rfl⟩
  obtain ⟨n6, hn2⟩ : ∃ n, n = q.tx.outs.length := ⟨_, rfl⟩
  have HAT := Lib.hid (show RecAt w7 (.agg #[.int .i64 q.kind, .int .i64 q.num, .int .u32 q.tx.ver, .slice ba n5 bc, .slice da n6 dc, .int .u32 q.tx.lock, .int .i64 q.index, .string q.id, .int .u32 q.idx, .int .i64 q.val, .int .i64 q.br, .int .u16 q.tag, .int .u16 q.delay, .int .u32 q.height, .int .i64 q.dead, .int .i64 q.budget, .int .i64 q.start, .int .i64 q.fee]) q from by rw [hn1, hn2]; exact ⟨_, _, rfl, hsa, hsb, hsk⟩)
  rw [← hn1, ← hn2]
  clear hsa hsb hsk hn1 hn2 hto
  clear HAT
  have HNW := Lib.hid (heap_alloc_new w7 (.cells #[.int .i64 0, .int .i64 0, .int .u32 0, .slice none 0 0, .slice none 0 0, .int .u32 0, .int .i64 0, .string ⟨#[]⟩, .int .u32 0, .int .i64 0, .int .i64 0, .int .u16 0, .int .u16 0, .int .u32 0, .int .i64 0, .int .i64 0, .int .i64 0, .int .i64 0] 38))
  have HNR := Lib.hid (setRow_heap (w7.alloc (.cells #[.int .i64 0, .int .i64 0, .int .u32 0, .slice none 0 0, .slice none 0 0, .int .u32 0, .int .i64 0, .string ⟨#[]⟩, .int .u32 0, .int .i64 0, .int .i64 0, .int .u16 0, .int .u16 0, .int .u32 0, .int .i64 0, .int .i64 0, .int .i64 0, .int .i64 0] 38)) w7.heap.size _ #[.int .i64 q.kind, .int .i64 q.num, .int .u32 q.tx.ver, .slice ba n5 bc, .slice da n6 dc, .int .u32 q.tx.lock, .int .i64 q.index, .string q.id, .int .u32 q.idx, .int .i64 q.val, .int .i64 q.br, .int .u16 q.tag, .int .u16 q.delay, .int .u32 q.height, .int .i64 q.dead, .int .i64 q.budget, .int .i64 q.start, .int .i64 q.fee] _ _ HNW.out)
  have HAL := Lib.hid (show Below w7.heap.size w7 ((w7.alloc (.cells #[.int .i64 0, .int .i64 0, .int .u32 0, .slice none 0 0, .slice none 0 0, .int .u32 0, .int .i64 0, .string ⟨#[]⟩, .int .u32 0, .int .i64 0, .int .i64 0, .int .u16 0, .int .u16 0, .int .u32 0, .int .i64 0, .int .i64 0, .int .i64 0, .int .i64 0] 38)).setRow w7.heap.size #[.int .i64 q.kind, .int .i64 q.num, .int .u32 q.tx.ver, .slice ba n5 bc, .slice da n6 dc, .int .u32 q.tx.lock, .int .i64 q.index, .string q.id, .int .u32 q.idx, .int .i64 q.val, .int .i64 q.br, .int .u16 q.tag, .int .u16 q.delay, .int .u32 q.height, .int .i64 q.dead, .int .i64 q.budget, .int .i64 q.start, .int .i64 q.fee]) from below_rowE ((Below.refl _ _).alloc (Nat.le_refl _) _) (Nat.le_refl _) _)
  go_upto_region 8 with (refine wpList_store_row rfl 38 (.tmp 13) (.tmp 60) rfl w7.heap.size #[.int .i64 q.kind, .int .i64 q.num, .int .u32 q.tx.ver, .slice ba n5 bc, .slice da n6 dc, .int .u32 q.tx.lock, .int .i64 q.index, .string q.id, .int .u32 q.idx, .int .i64 q.val, .int .i64 q.br, .int .u16 q.tag, .int .u16 q.delay, .int .u32 q.height, .int .i64 q.dead, .int .i64 q.budget, .int .i64 q.start, .int .i64 q.fee] rfl rfl 38 _ HNW.out (by kernel_rfl) rfl (by kernel_rfl) ?_)
  clear HNW
  obtain ⟨G, hV⟩ : ∃ q, q = w7.heap.size := ⟨_, rfl⟩
  rw [← hV]
  have hz := HNR.out
  have hal := HAL.out
  clear HNR HAL
  rw [← hV] at hz hal
  generalize (w7.alloc (.cells #[.int .i64 0, .int .i64 0, .int .u32 0, .slice none 0 0, .slice none 0 0, .int .u32 0, .int .i64 0, .string ⟨#[]⟩, .int .u32 0, .int .i64 0, .int .i64 0, .int .u16 0, .int .u16 0, .int .u32 0, .int .i64 0, .int .i64 0, .int .i64 0, .int .i64 0] 38)).setRow G #[.int .i64 q.kind, .int .i64 q.num, .int .u32 q.tx.ver, .slice ba n5 bc, .slice da n6 dc, .int .u32 q.tx.lock, .int .i64 q.index, .string q.id, .int .u32 q.idx, .int .i64 q.val, .int .i64 q.br, .int .u16 q.tag, .int .u16 q.delay, .int .u32 q.height, .int .i64 q.dead, .int .i64 q.budget, .int .i64 q.start, .int .i64 q.fee] = w8 at *
  rw [hV] at hal
  have HG := Lib.hid hz
  have HB := Lib.hid (HB.out.trans (hal.mono HB.out.size))
  clear hz hal hV
  clear HG
  by_cases ht : tu = 0
  · have t0 : ((tu : Int) == 0) = true := by rw [beq_iff_eq]; omega
    have t1 : (tu : Int) = 0 := by omega
    clear ht
    go_wp2_with fail
    refine (wakes26_any w8).mono ?_
    rintro e w9 ⟨rfl, hb⟩
    have HB := Lib.hid (HB.out.trans (hb.mono HB.out.size))
    clear hb
    go_wp2_with fail
    go_ret
    exact ⟨rfl, HB.out⟩
  · have t0 : ((tu : Int) == 0) = false := by rw [beq_eq_false_iff_ne]; omega
    have t1 : ¬ (tu : Int) = 0 := by omega
    obtain ⟨rfl, rfl⟩ := HEND.out ht
    clear ht
    go_wp2_with fail
    refine (wakes26_any w8).mono ?_
    rintro e w9 ⟨rfl, hb⟩
    have HB := Lib.hid (HB.out.trans (hb.mono HB.out.size))
    clear hb
    go_wp2_with fail
    go_ret
    exact ⟨rfl, HB.out⟩
end Go.Proofs.Ytaooibocknemkaa
