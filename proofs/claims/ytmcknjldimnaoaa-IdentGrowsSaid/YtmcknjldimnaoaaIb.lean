/-
  ident.Pays. Conditions: no more than a thousand Outs.
-/
import Derived.Test.YtmcknjldimnaoaaIa
namespace Go.Proofs.Ytmcknjldimnaoaa
open Go.RowKit Go.BigFrame
set_option linter.unusedVariables false
set_option linter.unusedSimpArgs false

noncomputable def payC (t : PTx) (i : Int) : Int := if checkOf t = 0 then (if i < 0 ∨ (t.outs.length : Int) ≤ i then 2 else 0) else checkOf t
noncomputable def payS (t : PTx) (i : Int) : ByteArray := if payC t i = 0 then tw (encL t false) else bL []
noncomputable def payK (t : PTx) (i : Int) : Nat := if payC t i = 0 then i.toNat else 0
/-- It returns this point and this error, and makes new blocks alone. -/
def PIs (s : ByteArray) (k : Nat) (c : Int) (w : World) (e : Ending) (w' : World) : Prop := e = .returned (.tuple #[.agg #[.string s, .int .u32 k], .int .i64 c]) ∧ Below w.heap.size w w'
theorem pays_err {t : PTx} {i c : Int} (h : payC t i = c) (hc : c ≠ 0) : payS t i = bL [] ∧ payK t i = 0 := by
  unfold payS payK
  rw [h, if_neg hc, if_neg hc]
  exact ⟨rfl, rfl⟩
theorem pays_ok {t : PTx} {i : Int} (h : payC t i = 0) : payS t i = tw (encL t false) ∧ payK t i = i.toNat := by
  unfold payS payK
  rw [h, if_pos rfl, if_pos rfl]
  exact ⟨rfl, rfl⟩

set_option maxRecDepth 100000 in
set_option maxHeartbeats 2000000 in
theorem ipays_any (v : Value) (t : PTx) (i : Int) (w : World) (hv : TxAt w v t) (hlen : t.outs.length ≤ 1000) (hi1 : -9223372036854775808 ≤ i) (hi2 : i ≤ 9223372036854775807) : Calls Try.prog 14 #[v, .int .i64 i] w (PIs (payS t i) (payK t i) (payC t i) w) := by
  obtain ⟨va, vo, rfl, hia, hob, hv1, hv2⟩ := hv
  obtain ⟨a, c, rfl, hl1, hl2⟩ := hia.shape
  obtain ⟨a', c', rfl, hl1', hl2'⟩ := hob.shape
  have htb := TB.start (t := t) hia hob
  have HV := Lib.hid (And.intro hv1 hv2)
  obtain ⟨n, hn⟩ : ∃ n, n = t.ins.length := ⟨_, rfl⟩
  obtain ⟨n', hn'⟩ : ∃ n, n = t.outs.length := ⟨_, rfl⟩
  rw [← hn, ← hn'] at htb
  rw [← hn, ← hn']
  rw [← hn'] at hlen
  have HN' := Lib.hid hn'
  clear hn hn' hl1 hl2 hl1' hl2' hv1 hv2 hia hob
  have htw := htb.next ((Below.refl _ _).alloc (Nat.le_refl _) (.cells #[.string ⟨#[]⟩, .int .u32 0] 31))
  have hz := heap_alloc_new (w.alloc (.cells #[.int .u32 t.ver, .slice a n c, .slice a' n' c', .int .u32 t.lock] 26)) (.cells #[.string ⟨#[]⟩, .int .u32 0] 31)
  have hsz : (w.alloc (.cells #[.int .u32 t.ver, .slice a n c, .slice a' n' c', .int .u32 t.lock] 26)).heap.size = w.heap.size + 1 := by simp
  rw [hsz] at hz
  have HTB := Lib.hid htw
  clear htb htw hsz
  go_enter Try.func14, Try.ntmps14
  go_upto_region 1 with fail
  generalize (w.alloc (.cells #[.int .u32 t.ver, .slice a n c, .slice a' n' c', .int .u32 t.lock] 26)).alloc (.cells #[.string ⟨#[]⟩, .int .u32 0] 31) = w0 at *
  have c0 : w0.cell? ⟨w.heap.size, 0, none⟩ = some (.int .u32 t.ver) := cell_at HTB.out.box
  have c1 : w0.cell? ⟨w.heap.size, 1, none⟩ = some (.slice a n c) := cell_at HTB.out.box
  have c2 : w0.cell? ⟨w.heap.size, 2, none⟩ = some (.slice a' n' c') := cell_at HTB.out.box
  have c3 : w0.cell? ⟨w.heap.size, 3, none⟩ = some (.int .u32 t.lock) := cell_at HTB.out.box
  have HZ := Lib.hid hz
  clear hz
  have HCK := Lib.hid (iid_any _ t w0 (HTB.out.tx HV.out) (by rw [← HN'.out]; exact hlen))
  obtain ⟨s, hs⟩ : ∃ s, s = idE t false := ⟨_, rfl⟩
  rw [← hs] at HCK
  have HIC := Lib.hid (show payC t i = if checkOf t = 0 then (if i < 0 ∨ (n' : Int) ≤ i then 2 else 0) else checkOf t by rw [HN'.out]; rfl)
  by_cases hc : checkOf t = 0
  · have HS := Lib.hid (show s = tw (encL t false) from hs.trans (if_pos hc))
    have HIC := Lib.hid (HIC.out.trans (if_pos hc))
    rw [hc] at HCK
    clear hc hs
    by_cases hi0 : i < 0
    · have hpc : payC t i = 2 := HIC.out.trans (if_pos (.inl hi0))
      have HPC := Lib.hid hpc
      have HPP := Lib.hid (pays_err hpc (by decide))
      clear hpc
      go_wp2_with fail
      refine HCK.out.mono ?_
      rintro e w1 ⟨rfl, hb⟩
      replace c2 := below_cells hb _ _ c2
      have hz := (hb.block _ (Array.getElem?_eq_some_iff.1 HZ.out).1).trans HZ.out
      have HTB := Lib.hid (HTB.out.next hb)
      have r0 : w1.cell? ⟨w.heap.size + 1, 0, none⟩ = some (.string ⟨#[]⟩) := cell_at hz
      have r1 : w1.cell? ⟨w.heap.size + 1, 1, none⟩ = some (.int .u32 0) := cell_at hz
      have f0 : w1.frozen? ⟨w.heap.size + 1, 0, none⟩ = false := free_at hz
      have f1 : w1.frozen? ⟨w.heap.size + 1, 1, none⟩ = false := free_at hz
      clear hz hb
      have HB := Lib.hid HTB.out.bel
      go_wp2_with fail
      exact bodyPost_ret (v := .tuple #[.agg #[.string ⟨#[]⟩, .int .u32 (0 : Nat)], .int .i64 2]) (by simp [results, Try.results14, go_sem, r0, r1]) rfl ⟨by rw [HPC.out, HPP.out.1, HPP.out.2]; rfl, (HB.out.setCell (Nat.le_succ _) _).setCell (Nat.le_succ _) _⟩
    · obtain ⟨k, rfl⟩ : ∃ k : Nat, i = k := ⟨i.toNat, by omega⟩
      by_cases hkn : n' ≤ k
      · have hpc : payC t k = 2 := HIC.out.trans (if_pos (.inr (by omega)))
        have HPC := Lib.hid hpc
        have HPP := Lib.hid (pays_err hpc (by decide))
        have hk2 : (n' : Int) ≤ (k : Int) := by omega
        clear hpc
        go_wp2_with fail
        refine HCK.out.mono ?_
        rintro e w1 ⟨rfl, hb⟩
        replace c2 := below_cells hb _ _ c2
        have hz := (hb.block _ (Array.getElem?_eq_some_iff.1 HZ.out).1).trans HZ.out
        have HTB := Lib.hid (HTB.out.next hb)
        have r0 : w1.cell? ⟨w.heap.size + 1, 0, none⟩ = some (.string ⟨#[]⟩) := cell_at hz
        have r1 : w1.cell? ⟨w.heap.size + 1, 1, none⟩ = some (.int .u32 0) := cell_at hz
        have f0 : w1.frozen? ⟨w.heap.size + 1, 0, none⟩ = false := free_at hz
        have f1 : w1.frozen? ⟨w.heap.size + 1, 1, none⟩ = false := free_at hz
        clear hz hb
        have HB := Lib.hid HTB.out.bel
        go_wp2_with fail
        exact bodyPost_ret (v := .tuple #[.agg #[.string ⟨#[]⟩, .int .u32 (0 : Nat)], .int .i64 2]) (by simp [results, Try.results14, go_sem, r0, r1]) rfl ⟨by rw [HPC.out, HPP.out.1, HPP.out.2]; rfl, (HB.out.setCell (Nat.le_succ _) _).setCell (Nat.le_succ _) _⟩
      · have hpc : payC t k = 0 := HIC.out.trans (if_neg (by omega))
        have HPC := Lib.hid hpc
        have HPP := Lib.hid (pays_ok hpc)
        have hk2 : (k : Int) < (n' : Int) := by omega
        have hk3 : (k : Int) ≤ 1000 := by omega
        clear hpc
        go_wp2_with fail
        refine HCK.out.mono ?_
        rintro e w1 ⟨rfl, hb⟩
        replace c2 := below_cells hb _ _ c2
        have hz := (hb.block _ (Array.getElem?_eq_some_iff.1 HZ.out).1).trans HZ.out
        have HTB := Lib.hid (HTB.out.next hb)
        have r0 : w1.cell? ⟨w.heap.size + 1, 0, none⟩ = some (.string ⟨#[]⟩) := cell_at hz
        have r1 : w1.cell? ⟨w.heap.size + 1, 1, none⟩ = some (.int .u32 0) := cell_at hz
        have f0 : w1.frozen? ⟨w.heap.size + 1, 0, none⟩ = false := free_at hz
        have f1 : w1.frozen? ⟨w.heap.size + 1, 1, none⟩ = false := free_at hz
        clear hz hb
        have HB := Lib.hid HTB.out.bel
        go_wp2_with fail
        exact bodyPost_ret (v := .tuple #[.agg #[.string s, .int .u32 k], .int .i64 0]) (by simp [results, Try.results14, go_sem, r0, r1]) rfl ⟨by rw [HPC.out, HPP.out.1, HPP.out.2, HS.out, Int.toNat_natCast], (HB.out.setCell (Nat.le_succ _) _).setCell (Nat.le_succ _) _⟩
  · have HIC := Lib.hid (HIC.out.trans (if_neg hc))
    have hpc := HIC.out
    have HPP := Lib.hid (pays_err hpc hc)
    have HPC := Lib.hid hpc
    clear hs hpc HIC
    generalize checkOf t = ck at *
    have hne : (ck == 0) = false := by simpa using hc
    go_wp2_with fail
    refine HCK.out.mono ?_
    rintro e w1 ⟨rfl, hb⟩
    replace c2 := below_cells hb _ _ c2
    have hz := (hb.block _ (Array.getElem?_eq_some_iff.1 HZ.out).1).trans HZ.out
    have HTB := Lib.hid (HTB.out.next hb)
    have r0 : w1.cell? ⟨w.heap.size + 1, 0, none⟩ = some (.string ⟨#[]⟩) := cell_at hz
    have r1 : w1.cell? ⟨w.heap.size + 1, 1, none⟩ = some (.int .u32 0) := cell_at hz
    have f0 : w1.frozen? ⟨w.heap.size + 1, 0, none⟩ = false := free_at hz
    have f1 : w1.frozen? ⟨w.heap.size + 1, 1, none⟩ = false := free_at hz
    clear hz hb
    have HB := Lib.hid HTB.out.bel
    go_wp2_with fail
    exact bodyPost_ret (v := .tuple #[.agg #[.string ⟨#[]⟩, .int .u32 (0 : Nat)], .int .i64 ck]) (by simp [results, Try.results14, go_sem, r0, r1]) rfl ⟨by rw [HPC.out, HPP.out.1, HPP.out.2]; rfl, (HB.out.setCell (Nat.le_succ _) _).setCell (Nat.le_succ _) _⟩
theorem ipays_err {c : Int} (v : Value) (t : PTx) (i : Int) (w : World) (hv : TxAt w v t) (hlen : t.outs.length ≤ 1000) (hi1 : -9223372036854775808 ≤ i) (hi2 : i ≤ 9223372036854775807) (h : payC t i = c) (hc : c ≠ 0) :
    Calls Try.prog 14 #[v, .int .i64 i] w fun e w' => e = .returned (.tuple #[.agg #[.string ⟨#[]⟩, .int .u32 0], .int .i64 c]) ∧ Below w.heap.size w w' := by
  have h1 := ipays_any v t i w hv hlen hi1 hi2
  rw [(pays_err h hc).1, (pays_err h hc).2, h] at h1
  exact h1
end Go.Proofs.Ytmcknjldimnaoaa
