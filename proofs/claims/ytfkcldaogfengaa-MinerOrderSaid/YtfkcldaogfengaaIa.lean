/-
  The identity of a transaction: ident's functions and the document's. Conditions: no more than a thousand Outs; of the document's: the transaction may be.
-/
import Derived.Test.YtfkcldaogfengaaWe
import Derived.Test.YtfkcldaogfengaaShaD
namespace Go.Proofs.Ytfkcldaogfengaa
open Go.RowKit Go.BigFrame
set_option linter.unusedVariables false
set_option linter.unusedSimpArgs false

/-- The id of a text. -/
def tw (l : List UInt8) : ByteArray := dig (dig (bL l))
theorem tw_size (l : List UInt8) : (tw l).size = 32 := dig_size _
noncomputable def idE (t : PTx) (b : Bool) : ByteArray := if checkOf t = 0 then tw (encL t b) else bL []
def weigh (t : PTx) : Int := 3 * (encL t false).length + (encL t (witOf t)).length
noncomputable def weightE (t : PTx) : Int := if checkOf t = 0 then weigh t else 0
noncomputable def sizeE (t : PTx) : Int := (weightE t + 3) / 4
/-- It returns this number and this error, and makes new blocks alone. -/
def NIs (n c : Int) (w : World) (e : Ending) (w' : World) : Prop := e = .returned (.tuple #[.int .i64 n, .int .i64 c]) ∧ Below w.heap.size w w'
def CIs' (c : Int) (w : World) (e : Ending) (w' : World) : Prop := e = .returned (.int .i64 c) ∧ Below w.heap.size w w'
theorem ret_ti {s s' : ByteArray} {c c' : Int} (h : s' = s) (h2 : c' = c) : Ending.returned (.tuple #[.string s, .int .i64 c]) = .returned (.tuple #[.string s', .int .i64 c']) := by rw [h, h2]
theorem ret_ni {s s' : Int} {c c' : Int} (h : s' = s) (h2 : c' = c) : Ending.returned (.tuple #[.int .i64 s, .int .i64 c]) = .returned (.tuple #[.int .i64 s', .int .i64 c']) := by rw [h, h2]
theorem ret_n {s s' : Int} (h : s' = s) : Ending.returned (.int .i64 s) = .returned (.int .i64 s') := by rw [h]
theorem ret_s {s s' : ByteArray} (h : s' = s) : Ending.returned (.string s) = .returned (.string s') := by rw [h]
theorem weigh_le {t : PTx} (he : Enc t) : 0 ≤ weigh t ∧ weigh t ≤ 800000 := by
  have h1 := encL_le he false
  have h2 := encL_le he (witOf t)
  unfold weigh
  omega
theorem weightE_le (t : PTx) : 0 ≤ weightE t ∧ weightE t ≤ 800000 := by
  unfold weightE
  split
  · rename_i h; exact weigh_le (enc_of (whole_of h))
  · omega
set_option maxRecDepth 100000 in
set_option maxHeartbeats 2000000 in
theorem rid_any (v : Value) (t : PTx) (w : World) (hv : TxAt w v t) (hck : checkOf t = 0) : Calls Try.prog 34 #[v] w (fun e w' => e = .returned (.string (tw (encL t false))) ∧ Below w.heap.size w w') := by
  obtain ⟨va, vo, rfl, hia, hob, hv1, hv2⟩ := hv
  obtain ⟨a, c, rfl, hl1, hl2⟩ := hia.shape
  obtain ⟨a', c', rfl, hl1', hl2'⟩ := hob.shape
  have HTB := Lib.hid (TB.start hia hob)
  have HV := Lib.hid (And.intro hv1 hv2)
  have HE := Lib.hid (enc_of (whole_of hck))
  clear hck
  clear hia hob hv1 hv2 hl1 hl2 hl1' hl2'
  go_enter Try.func34, Try.ntmps34
  go_upto_region 1 with fail
  obtain ⟨n, hn⟩ : ∃ n, n = t.ins.length := ⟨_, rfl⟩
  obtain ⟨n', hn'⟩ : ∃ n, n = t.outs.length := ⟨_, rfl⟩
  rw [← hn, ← hn'] at HTB
  rw [← hn, ← hn']
  clear hn hn'
  generalize w.alloc (.cells #[.int .u32 t.ver, .slice a n c, .slice a' n' c', .int .u32 t.lock] 41) = w0 at *
  have c0 : w0.cell? ⟨w.heap.size, 0, none⟩ = some (.int .u32 t.ver) := cell_at HTB.out.box
  have c1 : w0.cell? ⟨w.heap.size, 1, none⟩ = some (.slice a n c) := cell_at HTB.out.box
  have c2 : w0.cell? ⟨w.heap.size, 2, none⟩ = some (.slice a' n' c') := cell_at HTB.out.box
  have c3 : w0.cell? ⟨w.heap.size, 3, none⟩ = some (.int .u32 t.lock) := cell_at HTB.out.box
  obtain ⟨s, hs⟩ : ∃ s, s = bL (encL t false) := ⟨_, rfl⟩
  have HCK := Lib.hid (show Calls Try.prog 53 _ w0 (SIs (encL t false) w0) from rbytes_any _ t true w0 (HTB.out.tx HV.out) HE.out)
  have HF := Lib.hid (show tw (encL t false) = dig (dig s) by rw [hs]; rfl)
  have hss : s.size ≤ 200000 := by rw [hs, bL_size]; exact encL_le HE.out _
  unfold SIs at HCK
  rw [← hs] at HCK
  clear hs
  go_wp2_with fail
  refine (HCK.out).mono ?_
  rintro e w1 ⟨rfl, hb⟩
  have HTB := Lib.hid (HTB.out.next hb)
  clear hb
  go_wp2_with fail
  refine (rtwice_any s (by omega) w1).mono ?_
  rintro e w2 ⟨rfl, hb⟩
  have HTB := Lib.hid (HTB.out.next hb)
  clear hb
  have HB := Lib.hid HTB.out.bel
  go_wp2_with fail
  go_ret
  exact ⟨ret_s HF.out, HB.out⟩
set_option maxRecDepth 100000 in
set_option maxHeartbeats 2000000 in
theorem rweight_any (v : Value) (t : PTx) (w : World) (hv : TxAt w v t) (hck : checkOf t = 0) : Calls Try.prog 55 #[v] w (CIs' (weigh t) w) := by
  obtain ⟨va, vo, rfl, hia, hob, hv1, hv2⟩ := hv
  obtain ⟨a, c, rfl, hl1, hl2⟩ := hia.shape
  obtain ⟨a', c', rfl, hl1', hl2'⟩ := hob.shape
  have HTB := Lib.hid (TB.start hia hob)
  have HV := Lib.hid (And.intro hv1 hv2)
  have HE := Lib.hid (enc_of (whole_of hck))
  clear hck
  clear hia hob hv1 hv2 hl1 hl2 hl1' hl2'
  go_enter Try.func55, Try.ntmps55
  go_upto_region 1 with fail
  obtain ⟨n, hn⟩ : ∃ n, n = t.ins.length := ⟨_, rfl⟩
  obtain ⟨n', hn'⟩ : ∃ n, n = t.outs.length := ⟨_, rfl⟩
  rw [← hn, ← hn'] at HTB
  rw [← hn, ← hn']
  clear hn hn'
  generalize w.alloc (.cells #[.int .u32 t.ver, .slice a n c, .slice a' n' c', .int .u32 t.lock] 41) = w0 at *
  have c0 : w0.cell? ⟨w.heap.size, 0, none⟩ = some (.int .u32 t.ver) := cell_at HTB.out.box
  have c1 : w0.cell? ⟨w.heap.size, 1, none⟩ = some (.slice a n c) := cell_at HTB.out.box
  have c2 : w0.cell? ⟨w.heap.size, 2, none⟩ = some (.slice a' n' c') := cell_at HTB.out.box
  have c3 : w0.cell? ⟨w.heap.size, 3, none⟩ = some (.int .u32 t.lock) := cell_at HTB.out.box
  obtain ⟨s, hs⟩ : ∃ s, s = bL (encL t false) := ⟨_, rfl⟩
  obtain ⟨s', hs'⟩ : ∃ s, s = bL (encL t (witOf t)) := ⟨_, rfl⟩
  have HCK := Lib.hid (show Calls Try.prog 53 _ w0 (SIs (encL t false) w0) from rbytes_any _ t true w0 (HTB.out.tx HV.out) HE.out)
  have hz : s.size ≤ 200000 := by rw [hs, bL_size]; exact encL_le HE.out false
  have hz' : s'.size ≤ 200000 := by rw [hs', bL_size]; exact encL_le HE.out _
  have HR := Lib.hid (show weigh t = 3 * (s.size : Int) + (s'.size : Int) by rw [hs, hs', bL_size, bL_size]; rfl)
  have HS' := Lib.hid hs'
  unfold SIs at HCK
  rw [← hs] at HCK
  clear hs hs'
  go_wp2_with fail
  refine (HCK.out).mono ?_
  rintro e w1 ⟨rfl, hb⟩
  replace c0 := below_cells hb _ _ c0
  replace c1 := below_cells hb _ _ c1
  replace c2 := below_cells hb _ _ c2
  replace c3 := below_cells hb _ _ c3
  have HTB := Lib.hid (HTB.out.next hb)
  clear hb
  go_wp2_with fail
  have HCK2 := Lib.hid (show Calls Try.prog 53 _ w1 (SIs (encL t (witOf t)) w1) from rbytes_any _ t false w1 (HTB.out.tx HV.out) HE.out)
  unfold SIs at HCK2
  rw [← HS'.out] at HCK2
  refine HCK2.out.mono ?_
  rintro e w2 ⟨rfl, hb⟩
  have HB := Lib.hid (HTB.out.next hb).bel
  clear hb
  go_wp2_with fail
  go_ret
  exact ⟨ret_n HR.out, HB.out⟩
set_option maxRecDepth 100000 in
set_option maxHeartbeats 2000000 in
theorem rsize_any (v : Value) (t : PTx) (w : World) (hv : TxAt w v t) (hck : checkOf t = 0) : Calls Try.prog 37 #[v] w (CIs' ((weigh t + 3) / 4) w) := by
  obtain ⟨va, vo, rfl, hia, hob, hv1, hv2⟩ := hv
  obtain ⟨a, c, rfl, hl1, hl2⟩ := hia.shape
  obtain ⟨a', c', rfl, hl1', hl2'⟩ := hob.shape
  have HTB := Lib.hid (TB.start hia hob)
  have HV := Lib.hid (And.intro hv1 hv2)
  have HK := Lib.hid hck
  have hle := weigh_le (enc_of (whole_of hck))
  clear hck
  clear hia hob hv1 hv2 hl1 hl2 hl1' hl2'
  go_enter Try.func37, Try.ntmps37
  go_upto_region 1 with fail
  obtain ⟨n, hn⟩ : ∃ n, n = t.ins.length := ⟨_, rfl⟩
  obtain ⟨n', hn'⟩ : ∃ n, n = t.outs.length := ⟨_, rfl⟩
  rw [← hn, ← hn'] at HTB
  rw [← hn, ← hn']
  clear hn hn'
  generalize w.alloc (.cells #[.int .u32 t.ver, .slice a n c, .slice a' n' c', .int .u32 t.lock] 41) = w0 at *
  have c0 : w0.cell? ⟨w.heap.size, 0, none⟩ = some (.int .u32 t.ver) := cell_at HTB.out.box
  have c1 : w0.cell? ⟨w.heap.size, 1, none⟩ = some (.slice a n c) := cell_at HTB.out.box
  have c2 : w0.cell? ⟨w.heap.size, 2, none⟩ = some (.slice a' n' c') := cell_at HTB.out.box
  have c3 : w0.cell? ⟨w.heap.size, 3, none⟩ = some (.int .u32 t.lock) := cell_at HTB.out.box
  have HCK := Lib.hid (rweight_any _ t w0 (HTB.out.tx HV.out) HK.out)
  obtain ⟨wt, hwt⟩ : ∃ r, r = weigh t := ⟨_, rfl⟩
  have HW := Lib.hid (show weigh t = wt from hwt.symm)
  rw [← hwt] at HCK hle
  have hl1 := hle.1
  have hl2 := hle.2
  clear hle hwt
  by_cases h0 : wt % 4 = 0
  · have hm : Int.tmod wt 4 = 0 := (Int.tmod_eq_emod_of_nonneg (by omega)).trans h0
    have hd : Int.tdiv wt 4 = wt / 4 := Int.tdiv_eq_ediv_of_nonneg (by omega)
    go_wp2_with fail
    refine (HCK.out).mono ?_
    rintro e w1 ⟨rfl, hb⟩
    have HTB := Lib.hid (HTB.out.next hb)
    clear hb
    have HB := Lib.hid HTB.out.bel
    go_wp2_with fail
    go_ret
    exact ⟨ret_n (by rw [HW.out]; omega), HB.out⟩
  · have hm : ¬ Int.tmod wt 4 = 0 := by rw [Int.tmod_eq_emod_of_nonneg (by omega)]; exact h0
    have hd : Int.tdiv wt 4 = wt / 4 := Int.tdiv_eq_ediv_of_nonneg (by omega)
    go_wp2_with fail
    refine (HCK.out).mono ?_
    rintro e w1 ⟨rfl, hb⟩
    have HTB := Lib.hid (HTB.out.next hb)
    clear hb
    have HB := Lib.hid HTB.out.bel
    go_wp2_with fail
    go_ret
    exact ⟨ret_n (by rw [HW.out]; omega), HB.out⟩
end Go.Proofs.Ytfkcldaogfengaa
