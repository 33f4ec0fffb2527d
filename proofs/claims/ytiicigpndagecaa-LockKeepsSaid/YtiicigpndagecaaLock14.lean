/-
  Locks, the fourteenth part: may an input be in a block? Conditions: none beyond each theorem's own.
-/
import Derived.Test.YtiicigpndagecaaLock13
namespace Go.Proofs.Ytiicigpndagecaa
open Go.RowKit Go.BigFrame
set_option linter.unusedVariables false

def ripeOf (t : PTx) (i c h : Int) : Bool := isIn t i && okHeight c && okHeight h && decide (c + waitsOf t i.toNat ≤ h) && (decide ((t.lock : Int) < h) || t.ins.all lastSeq)
def RipeIs (t : PTx) (i c h : Int) (w : World) (e : Ending) (w' : World) : Prop := e = .returned (.bool (ripeOf t i c h)) ∧ Below w.heap.size w w'
theorem ripe_is {t : PTx} {i c h : Int} {b : Bool} {w w' : World} (hr : ripeOf t i c h = b) (hb : Below w.heap.size w w') : RipeIs t i c h w (.returned (.bool b)) w' := by unfold RipeIs; rw [hr]; exact ⟨rfl, hb⟩
theorem tx_shape {w : World} {v : Value} {t : PTx} (h : TxAt w v t) : ∃ (a : Option Addr) (c : Nat) (au : Option Addr) (nu cu : Nat), v = .agg #[.int .u32 t.ver, .slice a t.ins.length c, .slice au nu cu, .int .u32 t.lock] ∧ t.ins.length ≤ 9223372036854775807 ∧ t.lock < 4294967296 ∧ SlAt rpIn w (.slice a t.ins.length c) t.ins := by
  obtain ⟨a, u, rfl, h1, h2, h3, h4⟩ := h
  obtain ⟨au, cu, rfl, -, -⟩ := h2.shape
  obtain ⟨a', c, rfl, hl1, hl2⟩ := h1.shape
  exact ⟨a', c, au, _, cu, rfl, by rw [maxLen_eq] at hl2; omega, h4, h1⟩

set_option maxRecDepth 100000 in
set_option maxHeartbeats 4000000 in
theorem ripe_any (v : Value) (t : PTx) (i c h : Int) (w : World) (hv : TxAt w v t) (hh1 : h ≤ 9223372036854775807) :
    Calls Try.prog 14 #[v, .int .i64 i, .int .i64 c, .int .i64 h] w (RipeIs t i c h w) := by
  obtain ⟨va, vc, au, nu, cu, rfl, hnm, hlk, hins⟩ := tx_shape hv
  have his := fun w' hw' => is_any _ t i w' (hv.mono hw')
  have HHC := Lib.hid (height_any c)
  have HHH := Lib.hid (height_any h)
  have HV := Lib.hid hv
  have HINS := Lib.hid hins
  clear hv hins
  cases hin : isIn t i
  case false =>
    rw [hin] at his
    have HIS := Lib.hid his
    have HR := Lib.hid (show ripeOf t i c h = false by unfold ripeOf; rw [hin]; rfl)
    clear his hin HHC HHH
    go_enter Try.func14, Try.ntmps14
    go_wp2_with fail
    refine (HIS.out _ (fun p v hp => cell_over hp _)).mono ?_
    rintro e w1 ⟨rfl, hb1⟩
    go_wp2
    go_ret
    exact ripe_is HR.out (((Below.refl _ _).alloc (Nat.le_refl _) _).trans (hb1.mono (by simp)))
  rw [hin] at his
  have HIS := Lib.hid his
  cases hoc : okHeight c
  case false =>
    rw [hoc] at HHC
    have HR := Lib.hid (show ripeOf t i c h = false by unfold ripeOf; rw [hin, hoc]; rfl)
    clear his hin HHH hoc
    go_enter Try.func14, Try.ntmps14
    go_wp2_with fail
    refine (HIS.out _ (fun p v hp => cell_over hp _)).mono ?_
    rintro e w1 ⟨rfl, hb1⟩
    go_wp2_with fail
    refine (HHC.out _).mono ?_
    rintro e w2 ⟨rfl, rfl⟩
    go_wp2
    go_ret
    exact ripe_is HR.out (((Below.refl _ _).alloc (Nat.le_refl _) _).trans (hb1.mono (by simp)))
  cases hoh : okHeight h
  case false =>
    rw [hoc] at HHC
    rw [hoh] at HHH
    have HR := Lib.hid (show ripeOf t i c h = false by unfold ripeOf; rw [hin, hoc, hoh]; rfl)
    clear his hin hoc hoh
    go_enter Try.func14, Try.ntmps14
    go_wp2_with fail
    refine (HIS.out _ (fun p v hp => cell_over hp _)).mono ?_
    rintro e w1 ⟨rfl, hb1⟩
    go_wp2_with fail
    refine (HHC.out _).mono ?_
    rintro e w2 ⟨rfl, rfl⟩
    go_wp2_with fail
    refine (HHH.out _).mono ?_
    rintro e w2 ⟨rfl, rfl⟩
    go_wp2
    go_ret
    exact ripe_is HR.out (((Below.refl _ _).alloc (Nat.le_refl _) _).trans (hb1.mono (by simp)))
  obtain ⟨k, rfl, hk⟩ := isIn_nat hin
  have hwt := fun w' hw' => waits_any _ t k w' (HV.out.mono hw') hk
  have hwl := waitsOf_lt t k
  have hcb : 0 ≤ c ∧ c ≤ 1000000 := by unfold okHeight at hoc; simpa using hoc
  have hhb : 0 ≤ h ∧ h ≤ 1000000 := by unfold okHeight at hoh; simpa using hoh
  have hrip : ripeOf t k c h = (decide (c + waitsOf t k ≤ h) && (decide ((t.lock : Int) < h) || t.ins.all lastSeq)) := by unfold ripeOf; rw [hin, hoc, hoh]; simp
  rw [hoc] at HHC
  rw [hoh] at HHH
  have HRIP := Lib.hid hrip
  have HWT := Lib.hid hwt
  have HCF := Lib.hid (fun w' hw' => containsf_any _ t.ins w' (HINS.out.mono hw'))
  clear his hin hoc hoh hwt hrip hk
  generalize waitsOf t k = wf at *
  generalize t.lock = lk at *
  generalize t.ver = ver at *
  generalize t.ins.length = n at *
  go_enter Try.func14, Try.ntmps14
  go_wp2_with fail
  refine (HIS.out _ (fun p v hp => cell_over hp _)).mono ?_
  rintro e w1 ⟨rfl, hb1⟩
  have e1 : w1.heap[w.heap.size]? = _ := (hb1.block w.heap.size (by simp)).trans (heap_alloc_new w _)
  have hw1 : Below w.heap.size w w1 := ((Below.refl _ _).alloc (Nat.le_refl _) _).trans (hb1.mono (by simp))
  have hsz1 : w.heap.size < w1.heap.size := (Array.getElem?_eq_some_iff.1 e1).1
  have HMM := Lib.hid (below_cells hw1)
  have HW1 := Lib.hid hw1
  have HE1 := Lib.hid e1
  clear hb1
  go_wp2_with fail
  refine (HHC.out _).mono ?_
  rintro e w2 ⟨rfl, rfl⟩
  go_wp2_with fail
  refine (HHH.out _).mono ?_
  rintro e w2 ⟨rfl, rfl⟩
  have q0 : w1.cell? ⟨w.heap.size, 0, none⟩ = _ := cell_at e1
  have q1 : w1.cell? ⟨w.heap.size, 1, none⟩ = _ := cell_at e1
  have q2 : w1.cell? ⟨w.heap.size, 2, none⟩ = _ := cell_at e1
  have q3 : w1.cell? ⟨w.heap.size, 3, none⟩ = _ := cell_at e1
  clear e1 hw1
  go_wp2_with fail
  refine (HWT.out _ HMM.out).mono ?_
  rintro e w2 ⟨rfl, hb2⟩
  have hw2 := HW1.out.trans (hb2.mono (Nat.le_of_lt hsz1))
  have r1 := below_cells hb2 _ _ q1
  have r3 := below_cells hb2 _ _ q3
  have HM2 := Lib.hid (below_cells hw2)
  have HW2 := Lib.hid hw2
  have hsz2 := hb2.size
  clear hw2 hb2 q0 q1 q2 q3
  by_cases hlt : h < c + wf
  · have HR := Lib.hid (show ripeOf t k c h = false by rw [HRIP.out, decide_eq_false (by omega)]; rfl)
    clear r1 r3
    go_wp2
    go_ret
    exact ripe_is HR.out HW2.out
  by_cases hl : (lk : Int) < h
  · have HR := Lib.hid (show ripeOf t k c h = true by rw [HRIP.out, decide_eq_true (by omega), decide_eq_true hl]; rfl)
    go_wp2
    go_ret
    exact ripe_is HR.out HW2.out
  have HR := Lib.hid (show ripeOf t k c h = t.ins.all lastSeq by rw [HRIP.out, decide_eq_true (by omega), decide_eq_false hl]; rfl)
  go_wp2_with fail
  refine (HCF.out _ HM2.out).mono ?_
  rintro e w3 ⟨rfl, hb3⟩
  have HW3 := Lib.hid (HW2.out.trans (hb3.mono (Nat.le_trans (Nat.le_of_lt hsz1) hsz2)))
  clear r1 r3 hb3
  go_wp2
  go_ret
  exact ripe_is (by rw [HR.out]; simp; intro hx; exact absurd hx (by omega)) HW3.out

end Go.Proofs.Ytiicigpndagecaa
