/-
  The identity of a transaction: ident's functions and the document's. Conditions: no more than a thousand Outs; of the document's: the transaction may be.
-/
import Derived.Test.YtmakghcoehkphaaGreatQ7ClaimBuilds
namespace Go.Proofs.YtmakghcoehkphaaGreat
open Go.RowKit Go.BigFrame
set_option linter.unusedVariables false
set_option linter.unusedSimpArgs false

/-- The id of a text. -/
def tw (l : List UInt8) : ByteArray := dig (dig (bL l))
theorem tw_size (l : List UInt8) : (tw l).size = 32 := dig_size _
noncomputable def idE (t : PTx) (b : Bool) : ByteArray := if checkOf t = 0 then tw (encL t b) else bL []
def weigh (t : PTx) : Int := 3 * (encL t false).length + (encL t (witOf t)).length
noncomputable def weightE (t : PTx) : Int := if checkOf t = 0 then weigh t else 0
noncomputable def sizeE (t : PTx) : Int := (weightE t + 3) / 4
/-- It returns this number and this error, and makes new blocks alone. -/
def NIs (n c : Int) (w : World) (e : Ending) (w' : World) : Prop := e = .returned (.tuple #[.int .i64 n, .int .i64 c]) ∧ Below w.heap.size w w'
def CIs' (c : Int) (w : World) (e : Ending) (w' : World) : Prop := e = .returned (.int .i64 c) ∧ Below w.heap.size w w'
theorem ret_ti {s s' : ByteArray} {c c' : Int} (h : s' = s) (h2 : c' = c) : Ending.returned (.tuple #[.string s, .int .i64 c]) = .returned (.tuple #[.string s', .int .i64 c']) := by rw [h, h2]
theorem ret_ni {s s' : Int} {c c' : Int} (h : s' = s) (h2 : c' = c) : Ending.returned (.tuple #[.int .i64 s, .int .i64 c]) = .returned (.tuple #[.int .i64 s', .int .i64 c']) := by rw [h, h2]
theorem ret_n {s s' : Int} (h : s' = s) : Ending.returned (.int .i64 s) = .returned (.int .i64 s') := by rw [h]
theorem ret_s {s s' : ByteArray} (h : s' = s) : Ending.returned (.string s) = .returned (.string s') := by rw [h]
theorem weigh_le {t : PTx} (he : Enc t) : 0 ≤ weigh t ∧ weigh t ≤ 800000 := by
  have h1 := encL_le he false
  have h2 := encL_le he (witOf t)
  unfold weigh
  omega
theorem weightE_le (t : PTx) : 0 ≤ weightE t ∧ weightE t ≤ 800000 := by
  unfold weightE
  split
  · rename_i h; exact weigh_le (enc_of (whole_of h))
  · omega
set_option maxRecDepth 100000 in
set_option maxHeartbeats 2000000 in
theorem iweight_any (v : Value) (t : PTx) (w : World) (hv : TxAt w v t) (hlen : t.outs.length ≤ 1000) : Calls Tryz.prog 47 #[v] w (NIs (weightE t) (checkOf t) w) := by
  obtain ⟨va, vo, rfl, hia, hob, hv1, hv2⟩ := hv
  obtain ⟨a, c, rfl, hl1, hl2⟩ := hia.shape
  obtain ⟨a', c', rfl, hl1', hl2'⟩ := hob.shape
  have HTB := Lib.hid (TB.start hia hob)
  have HV := Lib.hid (And.intro hv1 hv2)
  have HO := Lib.hid hlen
  clear hlen
  clear hia hob hv1 hv2 hl1 hl2 hl1' hl2'
  go_enter Tryz.func47, Tryz.ntmps47
  go_upto_region 1 with fail
  obtain ⟨n, hn⟩ : ∃ n, n = t.ins.length := ⟨_, rfl⟩
  obtain ⟨n', hn'⟩ : ∃ n, n = t.outs.length := ⟨_, rfl⟩
  rw [← hn, ← hn'] at HTB
  rw [← hn, ← hn']
  clear hn hn'
  generalize w.alloc (.cells #[.int .u32 t.ver, .slice a n c, .slice a' n' c', .int .u32 t.lock] 44) = w0 at *
  have c0 : w0.cell? ⟨w.heap.size, 0, none⟩ = some (.int .u32 t.ver) := cell_at HTB.out.box
  have c1 : w0.cell? ⟨w.heap.size, 1, none⟩ = some (.slice a n c) := cell_at HTB.out.box
  have c2 : w0.cell? ⟨w.heap.size, 2, none⟩ = some (.slice a' n' c') := cell_at HTB.out.box
  have c3 : w0.cell? ⟨w.heap.size, 3, none⟩ = some (.int .u32 t.lock) := cell_at HTB.out.box
  obtain ⟨s, hs⟩ : ∃ s, s = encE t false := ⟨_, rfl⟩
  obtain ⟨s', hs'⟩ : ∃ s, s = encE t (witOf t) := ⟨_, rfl⟩
  have HCK := Lib.hid (wbare_any _ t w0 (HTB.out.tx HV.out) HO.out)
  rw [← hs] at HCK
  by_cases hc : checkOf t = 0
  · have he := enc_of (whole_of hc)
    have hs2 : s = bL (encL t false) := hs.trans (if_pos hc)
    have hs2' : s' = bL (encL t (witOf t)) := hs'.trans (if_pos hc)
    have hz : s.size ≤ 200000 := by rw [hs2, bL_size]; exact encL_le he false
    have hz' : s'.size ≤ 200000 := by rw [hs2', bL_size]; exact encL_le he _
    have HR := Lib.hid (show weightE t = 3 * (s.size : Int) + (s'.size : Int) from (if_pos hc).trans (by rw [hs2, hs2', bL_size, bL_size]; rfl))
    have HS' := Lib.hid hs'
    have HC0 := Lib.hid hc
    rw [hc] at HCK
    clear hc hs2 hs2' hs hs' he
    go_wp2_with fail
    refine (HCK.out).mono ?_
    rintro e w1 ⟨rfl, hb⟩
    replace c0 := below_cells hb _ _ c0
    replace c1 := below_cells hb _ _ c1
    replace c2 := below_cells hb _ _ c2
    replace c3 := below_cells hb _ _ c3
    have HTB := Lib.hid (HTB.out.next hb)
    clear hb
    go_wp2_with fail
    have HCK2 := Lib.hid (wenc_any _ t w1 (HTB.out.tx HV.out) HO.out)
    rw [HC0.out, ← HS'.out] at HCK2
    refine (HCK2.out).mono ?_
    rintro e w2 ⟨rfl, hb⟩
    have HB := Lib.hid (HTB.out.next hb).bel
    clear hb
    go_wp2_with fail
    go_ret2
    exact ⟨ret_ni HR.out HC0.out, HB.out⟩
  · have HF := Lib.hid (show weightE t = 0 from if_neg hc)
    have hc0 := hc
    clear hs hs'
    obtain ⟨ck, hck⟩ : ∃ ck, ck = checkOf t := ⟨_, rfl⟩
    rw [← hck] at HCK hc0 hc
    have HK := Lib.hid hck.symm
    have hne : (ck == 0) = false := by simpa using hc0
    clear hck
    go_wp2_with fail
    refine (HCK.out).mono ?_
    rintro e w1 ⟨rfl, hb⟩
    have HTB := Lib.hid (HTB.out.next hb)
    clear hb
    have HB := Lib.hid HTB.out.bel
    go_wp2_with fail
    go_ret2
    exact ⟨ret_ni HF.out HK.out, HB.out⟩
set_option maxRecDepth 100000 in
set_option maxHeartbeats 2000000 in
theorem isize_any (v : Value) (t : PTx) (w : World) (hv : TxAt w v t) (hlen : t.outs.length ≤ 1000) : Calls Tryz.prog 18 #[v] w (NIs (sizeE t) (checkOf t) w) := by
  obtain ⟨va, vo, rfl, hia, hob, hv1, hv2⟩ := hv
  obtain ⟨a, c, rfl, hl1, hl2⟩ := hia.shape
  obtain ⟨a', c', rfl, hl1', hl2'⟩ := hob.shape
  have HTB := Lib.hid (TB.start hia hob)
  have HV := Lib.hid (And.intro hv1 hv2)
  have HO := Lib.hid hlen
  clear hlen
  clear hia hob hv1 hv2 hl1 hl2 hl1' hl2'
  go_enter Tryz.func18, Tryz.ntmps18
  go_upto_region 1 with fail
  obtain ⟨n, hn⟩ : ∃ n, n = t.ins.length := ⟨_, rfl⟩
  obtain ⟨n', hn'⟩ : ∃ n, n = t.outs.length := ⟨_, rfl⟩
  rw [← hn, ← hn'] at HTB
  rw [← hn, ← hn']
  clear hn hn'
  generalize w.alloc (.cells #[.int .u32 t.ver, .slice a n c, .slice a' n' c', .int .u32 t.lock] 44) = w0 at *
  have c0 : w0.cell? ⟨w.heap.size, 0, none⟩ = some (.int .u32 t.ver) := cell_at HTB.out.box
  have c1 : w0.cell? ⟨w.heap.size, 1, none⟩ = some (.slice a n c) := cell_at HTB.out.box
  have c2 : w0.cell? ⟨w.heap.size, 2, none⟩ = some (.slice a' n' c') := cell_at HTB.out.box
  have c3 : w0.cell? ⟨w.heap.size, 3, none⟩ = some (.int .u32 t.lock) := cell_at HTB.out.box
  obtain ⟨wt, hwt⟩ : ∃ r, r = weightE t := ⟨_, rfl⟩
  have hle := weightE_le t
  have HSZ := Lib.hid (show sizeE t = (wt + 3) / 4 by rw [hwt]; rfl)
  have HCK := Lib.hid (iweight_any _ t w0 (HTB.out.tx HV.out) HO.out)
  rw [← hwt] at HCK hle
  have hl1 := hle.1
  have hl2 := hle.2
  clear hle hwt
  obtain ⟨ck, hck⟩ : ∃ ck, ck = checkOf t := ⟨_, rfl⟩
  rw [← hck] at HCK
  have HK := Lib.hid hck.symm
  clear hck
  go_wp2_with fail
  refine (HCK.out).mono ?_
  rintro e w1 ⟨rfl, hb⟩
  have HTB := Lib.hid (HTB.out.next hb)
  clear hb
  have HB := Lib.hid HTB.out.bel
  go_wp2_with fail
  go_ret2
  refine ⟨ret_ni (HSZ.out.trans ?_) HK.out, HB.out⟩
  show _ = _
  first | omega | (rw [show wt + 4 - 1 = wt + 3 by omega]; omega)
end Go.Proofs.YtmakghcoehkphaaGreat
