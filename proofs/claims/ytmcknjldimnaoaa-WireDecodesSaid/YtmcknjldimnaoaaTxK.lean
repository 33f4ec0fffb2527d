/-
  tx.Check. Conditions: no more than a thousand Outs.
-/
import Derived.Test.YtmcknjldimnaoaaTxM
namespace Go.Proofs.Ytmcknjldimnaoaa
open Go.RowKit Go.BigFrame
set_option linter.unusedVariables false
set_option linter.unusedSimpArgs false

def sumOf (t : PTx) : Int × Int := sumA 0 (t.outs.map (·.val))
noncomputable def checkOf (t : PTx) : Int := if countsOf t then (if longOf t then 20 else if formedOf t then (if dup (ptsOf t) then 7 else (sumOf t).2) else 4) else 6
def CIs (c : Int) (w : World) (e : Ending) (w' : World) : Prop := e = .returned (.int .i64 c) ∧ Below w.heap.size w w'

theorem TB.tx {w : World} {va vo : Value} {t : PTx} {wr : World} (h : TB w va vo t wr) (hv : t.ver < 4294967296 ∧ t.lock < 4294967296) : TxAt wr (.agg #[.int .u32 t.ver, va, vo, .int .u32 t.lock]) t :=
  ⟨va, vo, rfl, h.ins, h.outs, hv.1, hv.2⟩

set_option maxRecDepth 100000 in
set_option maxHeartbeats 2000000 in
theorem check_any (v : Value) (t : PTx) (w : World) (hv : TxAt w v t) (hlen : t.outs.length ≤ 1000) : Calls Try.prog 43 #[v] w (CIs (checkOf t) w) := by
  obtain ⟨va, vo, rfl, hia, hob, hv1, hv2⟩ := hv
  obtain ⟨a, c, rfl, hl1, hl2⟩ := hia.shape
  obtain ⟨a', c', rfl, hl1', hl2'⟩ := hob.shape
  have htb := TB.start hia hob
  have HTB := Lib.hid htb
  have HV := Lib.hid (And.intro hv1 hv2)
  have HL := Lib.hid hlen
  clear htb hia hob hv1 hv2 hl1 hl2 hl1' hl2' hlen
  obtain ⟨r, hr⟩ : ∃ r, r = checkOf t := ⟨_, rfl⟩
  rw [← hr]
  unfold checkOf at hr
  have HR := Lib.hid hr
  clear hr
  go_enter Try.func43, Try.ntmps43
  go_upto_region 1 with fail
  obtain ⟨n, hn⟩ : ∃ n, n = t.ins.length := ⟨_, rfl⟩
  obtain ⟨n', hn'⟩ : ∃ n, n = t.outs.length := ⟨_, rfl⟩
  rw [← hn, ← hn'] at HTB
  rw [← hn, ← hn']
  clear hn hn'
  generalize w.alloc (.cells #[.int .u32 t.ver, .slice a n c, .slice a' n' c', .int .u32 t.lock] 26) = w0 at *
  have c0 : w0.cell? ⟨w.heap.size, 0, none⟩ = some (.int .u32 t.ver) := cell_at HTB.out.box
  have c1 : w0.cell? ⟨w.heap.size, 1, none⟩ = some (.slice a n c) := cell_at HTB.out.box
  have c2 : w0.cell? ⟨w.heap.size, 2, none⟩ = some (.slice a' n' c') := cell_at HTB.out.box
  have c3 : w0.cell? ⟨w.heap.size, 3, none⟩ = some (.int .u32 t.lock) := cell_at HTB.out.box
  go_wp2_with fail
  refine (total_any _ t w0 (HTB.out.tx HV.out) HL.out).mono ?_
  rintro e w1 ⟨rfl, hb⟩
  have HT1 := Lib.hid (HTB.out.next hb)
  replace c0 := below_cells hb _ _ c0
  replace c1 := below_cells hb _ _ c1
  replace c2 := below_cells hb _ _ c2
  replace c3 := below_cells hb _ _ c3
  clear hb HTB
  have HSM := Lib.hid (show sumOf t = sumA 0 (t.outs.map (·.val)) from rfl)
  rw [← HSM.out]
  generalize sumOf t = sm at *
  go_wp2_with fail
  refine (counts_any _ t w1 (HT1.out.tx HV.out)).mono ?_
  rintro e w2 ⟨rfl, hb⟩
  have HT2 := Lib.hid (HT1.out.next hb)
  replace c0 := below_cells hb _ _ c0
  replace c1 := below_cells hb _ _ c1
  replace c2 := below_cells hb _ _ c2
  replace c3 := below_cells hb _ _ c3
  clear hb HT1
  generalize countsOf t = b1 at *
  cases b1
  · go_wp2_with fail
    go_ret
    exact ⟨by rw [HR.out]; rfl, HT2.out.bel⟩
  go_wp2_with fail
  refine (long_any _ t w2 (HT2.out.tx HV.out)).mono ?_
  rintro e w3 ⟨rfl, hb⟩
  have HT3 := Lib.hid (HT2.out.next hb)
  replace c0 := below_cells hb _ _ c0
  replace c1 := below_cells hb _ _ c1
  replace c2 := below_cells hb _ _ c2
  replace c3 := below_cells hb _ _ c3
  clear hb HT2
  generalize longOf t = b2 at *
  cases b2
  rotate_left
  · go_wp2_with fail
    go_ret
    exact ⟨by rw [HR.out]; rfl, HT3.out.bel⟩
  go_wp2_with fail
  refine (formed_any _ t w3 (HT3.out.tx HV.out)).mono ?_
  rintro e w4 ⟨rfl, hb⟩
  have HT4 := Lib.hid (HT3.out.next hb)
  replace c0 := below_cells hb _ _ c0
  replace c1 := below_cells hb _ _ c1
  replace c2 := below_cells hb _ _ c2
  replace c3 := below_cells hb _ _ c3
  clear hb HT3
  generalize formedOf t = b3 at *
  cases b3
  · go_wp2_with fail
    go_ret
    exact ⟨by rw [HR.out]; rfl, HT4.out.bel⟩
  go_wp2_with fail
  refine (twice_any _ t w4 (HT4.out.tx HV.out)).mono ?_
  rintro e w5 ⟨rfl, hb⟩
  have HT5 := Lib.hid (HT4.out.next hb)
  clear hb HT4
  generalize dup (ptsOf t) = b4 at *
  cases b4
  · go_wp2_with fail
    go_ret
    exact ⟨by rw [HR.out]; rfl, HT5.out.bel⟩
  · go_wp2_with fail
    go_ret
    exact ⟨by rw [HR.out]; rfl, HT5.out.bel⟩
end Go.Proofs.Ytmcknjldimnaoaa
