/-
  kedgelaw23.wakes. Conditions: none.
-/
import Derived.Test.YtelindgnkpfkiaaVj
namespace Go.Proofs.Ytelindgnkpfkiaa
open Go.RowKit Go.BigFrame Go.Maps
set_option linter.unusedVariables false
set_option linter.unusedSimpArgs false

theorem takenB_none (p : Pt) : takenB (fun _ => none) p = false := taken_no fun k q h => by cases h
theorem takenB_put {M : Int → Option Pt} {k : Int} {q : Pt} (hk : M k = none) (p : Pt) : takenB (putM M k (some q)) p = (decide (p = q) || takenB M p) := by
  by_cases hp : p = q
  · subst hp
    rw [taken_yes (M := putM M k (some p)) (k := k) (by simp [putM])]
    simp
  · rw [decide_eq_false hp, Bool.false_or]
    cases ht : takenB M p with
    | true =>
      have h := @of_decide_eq_true _ (Classical.propDecidable _) ht
      obtain ⟨j, hj⟩ := h
      refine taken_yes (k := j) ?_
      have : j ≠ k := fun e => by rw [e, hk] at hj; cases hj
      simp [putM, this, hj]
    | false =>
      have h := @of_decide_eq_false _ (Classical.propDecidable _) ht
      refine taken_no fun j u hj e => ?_
      subst e
      by_cases hjk : j = k
      · subst hjk
        simp [putM] at hj
        exact hp hj.symm
      · simp [putM, hjk] at hj
        exact h ⟨j, hj⟩
def wa0 : PEn := ⟨idB (0 : Nat), 0, 500, scrT 7, 0⟩
def wa1 : PEn := ⟨idB (1 : Nat), 0, 300, scrT 7, 0⟩
theorem wa_ne : ¬ wa0.pt = wa1.pt := by
  intro h
  have h1 : idB (0 : Nat) = idB (1 : Nat) := congrArg Prod.fst h
  exact absurd h1 (by decide +kernel)
theorem wa_a : chooseL (scrT 7) 200 (takenB fun _ => none) [wa0, wa1] = some wa1 := by
  simp [chooseL, pickB, fitsB, takenB_none, wa0, wa1, upB, betterB]
theorem wa_b : chooseL (scrT 7) 200 (takenB (putM (fun _ => none) 1 (some wa1.pt))) [wa0, wa1] = some wa0 := by
  have h0 : takenB (putM (fun _ => none) 1 (some wa1.pt)) wa0.pt = false := by rw [takenB_put rfl, takenB_none, decide_eq_false wa_ne]; rfl
  have h1 : takenB (putM (fun _ => none) 1 (some wa1.pt)) wa1.pt = true := by rw [takenB_put rfl, takenB_none, decide_eq_true rfl]; rfl
  simp only [chooseL, List.foldl_cons, List.foldl_nil, pickB, fitsB, h0, h1]
  simp [wa0, wa1, upB]
theorem wa_c : chooseL (scrT 7) 200 (takenB (putM (putM (fun _ => none) 1 (some wa1.pt)) 2 (some wa0.pt))) [wa0, wa1] = none := by
  have h0 : takenB (putM (putM (fun _ => none) 1 (some wa1.pt)) 2 (some wa0.pt)) wa0.pt = true := by rw [takenB_put rfl, decide_eq_true rfl]; rfl
  have h1 : takenB (putM (putM (fun _ => none) 1 (some wa1.pt)) 2 (some wa0.pt)) wa1.pt = true := by rw [takenB_put rfl, takenB_put rfl, decide_eq_true (p := wa1.pt = wa1.pt) rfl]; simp
  simp only [chooseL, List.foldl_cons, List.foldl_nil, pickB, fitsB, h0, h1]
  simp
theorem good200 : goodA 200 = true := by decide +kernel
theorem le_a : leaseE (scrT 7) (fun _ => none) 1 200 [wa0, wa1] = (wa1, 0, putM (fun _ => none) 1 (some wa1.pt)) := by
  unfold leaseE
  rw [if_neg (by rw [good200]; simp), wa_a]
theorem le_b : leaseE (scrT 7) (putM (fun _ => none) 1 (some wa1.pt)) 2 200 [wa0, wa1] = (wa0, 0, putM (putM (fun _ => none) 1 (some wa1.pt)) 2 (some wa0.pt)) := by
  unfold leaseE
  rw [if_neg (by rw [good200]; simp), wa_b]
theorem le_c : leaseE (scrT 7) (putM (putM (fun _ => none) 1 (some wa1.pt)) 2 (some wa0.pt)) 3 200 [wa0, wa1] = (zEn, 8, putM (putM (fun _ => none) 1 (some wa1.pt)) 2 (some wa0.pt)) := by
  unfold leaseE
  rw [if_neg (by rw [good200]; simp), wa_c]
theorem EnOwn.grown {t : TypeId} {base m : Nat} {w w' : World} {v : Value} {l : List PEn} (h : EnOwn t base w v l) (hg : w.grownBy w' (some m)) (hm : m < base) : EnOwn t base w' v l :=
  ⟨ownsRow_of_block h.row fun b hb => hg.block b (h.row.lt b hb).2 (fun e => by have := (h.row.lt b hb).1; injection e; omega), h.ok⟩
theorem wa_ok (x : PEn) (h : x ∈ [wa0, wa1]) : x.Ok := by
  simp at h
  rcases h with rfl | rfl
  · exact ⟨by show (idB _).size ≤ _; rw [idB_size]; decide, by show 0 < _; decide, by show (_ : Int) ≤ 500 ∧ (500 : Int) ≤ _; omega, by show (scrT _).size ≤ _; rw [scrT_size]; decide, by show (_ : Int) ≤ 0 ∧ (0 : Int) ≤ _; omega⟩
  · exact ⟨by show (idB _).size ≤ _; rw [idB_size]; decide, by show 0 < _; decide, by show (_ : Int) ≤ 300 ∧ (300 : Int) ≤ _; omega, by show (scrT _).size ≤ _; rw [scrT_size]; decide, by show (_ : Int) ≤ 0 ∧ (0 : Int) ≤ _; omega⟩
theorem own_apart {v2 v : Value} {B s : Nat} (h : v2.ownBlock = v.ownBlock ∨ v2.ownBlock = some (s + 1)) (hv : v.ownBlock ≠ some B) (hB : B < s) : v2.ownBlock ≠ some B := by
  rcases h with h | h
  · rw [h]; exact hv
  · rw [h]
    intro e
    injection e
    omega
set_option maxRecDepth 100000 in
set_option maxHeartbeats 4000000 in
theorem wakes23_any (w : World) : Calls Try.prog 7 #[] w (BIs true w) := by
  go_enter Try.func7, Try.ntmps7
  go_wp2_with fail
  refine (newr_any 7 (by decide) (by decide) w).mono ?_
  rintro e w1 ⟨b, m, rfl, hrm, hb, hm, hbel⟩
  have HRM := Lib.hid hrm
  have HBM := Lib.hid (And.intro hb hm)
  have HB1 := Lib.hid hbel
  have hmw : m < w1.heap.size := by obtain ⟨n, D, ho, -⟩ := hrm.owns; exact ho.lt
  have HMW := Lib.hid hmw
  clear hrm hb hm hbel hmw
  go_upto_region 4 with fail
  have hz := heap_alloc_new w1 (.cells #[.int .i64 500, .int .i64 300] 3)
  have hal : Below w1.heap.size w1 (w1.alloc (.cells #[.int .i64 500, .int .i64 300] 3)) := (Below.refl _ _).alloc (Nat.le_refl _) _
  obtain ⟨B, hB⟩ : ∃ q, q = w1.heap.size := ⟨_, rfl⟩
  rw [← hB] at hz ⊢
  generalize w1.alloc (.cells #[.int .i64 500, .int .i64 300] 3) = w2 at *
  have HB2 := Lib.hid hal
  have HROW := Lib.hid hz
  have HBB := Lib.hid hB
  clear hz hal hB
  go_loopg [3, 20] 2 (fun g v i wr => ∃ (k : Nat) (v0 : Value), v = v0 ∧ g = 2 - k ∧ k ≤ 2 ∧ i = .int .i64 k ∧ Below w1.heap.size w1 wr ∧ EnOwn 63 w1.heap.size wr v0 ([wa0, wa1].take k) ∧
      wr.heap[B]? = some (.cells #[.int .i64 500, .int .i64 300] 3 (0, 0)) ∧ v0.ownBlock ≠ some B)
  case atStart => exact ⟨0, _, rfl, rfl, by omega, rfl, HB2.out, enOwn_nil _ _ _, HROW.out, by intro e; cases e⟩
  case round =>
    clear HB2 HROW
    rename World => wo
    obtain ⟨k, v0, hv0, hgk, hk, rfl, hb, hown, hrow, hap⟩ := hrel
    obtain rfl := hv0.symm
    have HGK := Lib.hid hgk
    have HB := Lib.hid hb
    have HOWN := Lib.hid hown
    have HROW := Lib.hid hrow
    have HAP := Lib.hid hap
    clear hgk hb hown hrow hap
    obtain rfl | rfl | rfl : k = 0 ∨ k = 1 ∨ k = 2 := by omega
    · have a0 : wo.cell? ⟨B, 0, none⟩ = some (.int .i64 500) := cell_at HROW.out
      go_wp2_with fail
      refine (id_any 0 wo).mono ?_
      rintro e w3 ⟨rfl, hxc⟩
      have HB3 := Lib.hid (HB.out.trans (hxc.mono HB.out.size))
      have HROW := Lib.hid (stay HROW.out hxc)
      have HOWN3 := Lib.hid (HOWN.out.below hxc)
      clear hxc a0
      go_wp2_with fail
      refine (rscript_any 7 (by decide) w3).mono ?_
      rintro e w4 ⟨rfl, hxc⟩
      have HB4 := Lib.hid (HB3.out.trans (hxc.mono HB3.out.size))
      have HROW := Lib.hid (stay HROW.out hxc)
      have hown4 := HOWN3.out.below hxc
      clear hxc
      obtain ⟨i0, hi, hz0, hz1, hz2⟩ := info_parts info_ren
      obtain ⟨a2, c2, w5, hrun, hown5, hb5, hg5, hv5⟩ := append_one (P := Try.prog) Try.underlying31 hi hz0 hz1 hz2 rfl hown4.row #[.string (idB 0), .int .u32 0, .int .i64 500, .string (scrT 7), .int .i64 0] rfl (by simp [Value.oneCell']) (by rw [maxLen_eq]; simp) (by simp) HB4.out.size (ty := 31)
      have HO5 := Lib.hid (show EnOwn 63 w1.heap.size w5 (.slice a2 (0 + 1) c2) ([wa0, wa1].take (0 + 1)) from ⟨hown5, fun y hy => wa_ok y (List.mem_of_mem_take hy)⟩)
      have HB5 := Lib.hid (HB4.out.trans hb5)
      have HROW4 := Lib.hid HROW.out
      have HROW := Lib.hid (show w5.heap[B]? = some (.cells #[.int .i64 500, .int .i64 300] 3 (0, 0)) from (hg5.block B (by have := lt_of HROW.out; simp; omega) (fun e => HAP.out e.symm)).trans ((Below.heap_alloc _ _ _ (lt_of HROW.out)).trans HROW.out))
      obtain ⟨av, cv, hv0, -, -⟩ := ownsRow_shape hown4.row
      have HAP5 := Lib.hid (show (Value.slice a2 (0 + 1) c2).ownBlock ≠ some B from own_apart hv5 HAP.out (lt_of HROW4.out))
      subst hv0
      have HR := Lib.hid hrun
      clear hrun hown5 hb5 hi hz0 hz1 hz2 hown4 i0 hg5
      go_wp2_with (at_builtin; refine wpList_append_run rfl (.tmp 25) (.tmp 34) 31 31 rfl rfl rfl HR.out ?_)
      go_roundg 1
      case measure => have := HGK.out; omega
      case rel => exact ⟨0 + 1, _, rfl, rfl, by omega, by first | rfl | go_num, HB5.out, HO5.out, HROW.out, HAP5.out⟩
    · have a0 : wo.cell? ⟨B, 1, none⟩ = some (.int .i64 300) := cell_at HROW.out
      go_wp2_with fail
      refine (id_any 1 wo).mono ?_
      rintro e w3 ⟨rfl, hxc⟩
      have HB3 := Lib.hid (HB.out.trans (hxc.mono HB.out.size))
      have HROW := Lib.hid (stay HROW.out hxc)
      have HOWN3 := Lib.hid (HOWN.out.below hxc)
      clear hxc a0
      go_wp2_with fail
      refine (rscript_any 7 (by decide) w3).mono ?_
      rintro e w4 ⟨rfl, hxc⟩
      have HB4 := Lib.hid (HB3.out.trans (hxc.mono HB3.out.size))
      have HROW := Lib.hid (stay HROW.out hxc)
      have hown4 := HOWN3.out.below hxc
      clear hxc
      obtain ⟨i0, hi, hz0, hz1, hz2⟩ := info_parts info_ren
      obtain ⟨a2, c2, w5, hrun, hown5, hb5, hg5, hv5⟩ := append_one (P := Try.prog) Try.underlying31 hi hz0 hz1 hz2 rfl hown4.row #[.string (idB 1), .int .u32 0, .int .i64 300, .string (scrT 7), .int .i64 0] rfl (by simp [Value.oneCell']) (by rw [maxLen_eq]; simp) (by simp) HB4.out.size (ty := 31)
      have HO5 := Lib.hid (show EnOwn 63 w1.heap.size w5 (.slice a2 (1 + 1) c2) ([wa0, wa1].take (1 + 1)) from ⟨hown5, fun y hy => wa_ok y (List.mem_of_mem_take hy)⟩)
      have HB5 := Lib.hid (HB4.out.trans hb5)
      have HROW4 := Lib.hid HROW.out
      have HROW := Lib.hid (show w5.heap[B]? = some (.cells #[.int .i64 500, .int .i64 300] 3 (0, 0)) from (hg5.block B (by have := lt_of HROW.out; simp; omega) (fun e => HAP.out e.symm)).trans ((Below.heap_alloc _ _ _ (lt_of HROW.out)).trans HROW.out))
      obtain ⟨av, cv, hv0, -, -⟩ := ownsRow_shape hown4.row
      have HAP5 := Lib.hid (show (Value.slice a2 (1 + 1) c2).ownBlock ≠ some B from own_apart hv5 HAP.out (lt_of HROW4.out))
      subst hv0
      have HR := Lib.hid hrun
      clear hrun hown5 hb5 hi hz0 hz1 hz2 hown4 i0 hg5
      go_wp2_with (at_builtin; refine wpList_append_run rfl (.tmp 25) (.tmp 34) 31 31 rfl rfl rfl HR.out ?_)
      go_roundg 0
      case measure => have := HGK.out; omega
      case rel => exact ⟨1 + 1, _, rfl, rfl, by omega, by first | rfl | go_num, HB5.out, HO5.out, HROW.out, HAP5.out⟩
    · have HBW := Lib.hid (HB1.out.trans (HB.out.mono HB1.out.size))
      have HRM := Lib.hid (HRM.out.below HB.out)
      obtain ⟨av, cv, rfl, -, -⟩ := ownsRow_shape HOWN.out.row
      clear HROW HAP HB HBB HB1
      go_wp2_with fail
      refine (listed_any _ [wa0, wa1] wo HOWN.out.sl (by simp)).mono ?_
      rintro e l1 ⟨lv1, rfl, hlo, hxc⟩
      have HBW := Lib.hid (HBW.out.trans (hxc.mono HBW.out.size))
      have HRM := Lib.hid (HRM.out.below hxc)
      have HOWN := Lib.hid (HOWN.out.below hxc)
      have HLO := Lib.hid hlo
      clear hxc hlo
      obtain ⟨la1, lc1, rfl, -, -⟩ := ownsRow_shape HLO.out.row
      go_wp2_with fail
      refine (lease_new b m (scrT 7) (fun _ => none) 1 200 _ [wa0, wa1] l1 HRM.out (by decide) (by rfl) (by decide) HLO.out.sl).mono ?_
      rw [le_a]
      rintro e k1 ⟨rfl, hg, hrm⟩
      have HBW := Lib.hid (HBW.out.grown hg HBW.out.size (fun q hq => by injection hq with hq; rw [← hq]; exact HBM.out.2))
      have HRM := Lib.hid hrm
      have HOWN := Lib.hid (HOWN.out.grown hg HMW.out)
      clear hg hrm HLO
      unfold enC
      go_upto_region 9 with fail
      have hz := heap_alloc_new k1 (.cells #[.string wa1.id, .int .u32 wa1.idx, .int .i64 wa1.val, .string wa1.script, .int .i64 wa1.ht] 41)
      have hal : Below k1.heap.size k1 (k1.alloc (.cells #[.string wa1.id, .int .u32 wa1.idx, .int .i64 wa1.val, .string wa1.script, .int .i64 wa1.ht] 41)) := (Below.refl _ _).alloc (Nat.le_refl _) _
      obtain ⟨A1, hA1⟩ : ∃ q, q = k1.heap.size := ⟨_, rfl⟩
      rw [← hA1] at hz ⊢
      generalize k1.alloc (.cells #[.string wa1.id, .int .u32 wa1.idx, .int .i64 wa1.val, .string wa1.script, .int .i64 wa1.ht] 41) = t1 at *
      have HA1b := Lib.hid (show m < A1 by rw [hA1]; obtain ⟨n, D, ho, -⟩ := HRM.out.owns; exact ho.lt)
      have HBW := Lib.hid (HBW.out.trans (hal.mono HBW.out.size))
      have HRM := Lib.hid (HRM.out.below hal)
      have HOWN := Lib.hid (HOWN.out.below hal)
      have HA1 := Lib.hid hz
      clear hz hal hA1
      go_wp2_with fail
      refine (listed_any _ [wa0, wa1] t1 HOWN.out.sl (by simp)).mono ?_
      rintro e l2 ⟨lv2, rfl, hlo, hxc⟩
      have HBW := Lib.hid (HBW.out.trans (hxc.mono HBW.out.size))
      have HRM := Lib.hid (HRM.out.below hxc)
      have HOWN := Lib.hid (HOWN.out.below hxc)
      have HLO := Lib.hid hlo
      have HA1 := Lib.hid (stay HA1.out hxc)
      clear hxc hlo
      obtain ⟨la2, lc2, rfl, -, -⟩ := ownsRow_shape HLO.out.row
      go_wp2_with fail
      refine (lease_new b m (scrT 7) (putM (fun _ => none) 1 (some wa1.pt)) 2 200 _ [wa0, wa1] l2 HRM.out (by decide) (by rfl) (by decide) HLO.out.sl).mono ?_
      rw [le_b]
      rintro e k2 ⟨rfl, hg, hrm⟩
      have HBW := Lib.hid (HBW.out.grown hg HBW.out.size (fun q hq => by injection hq with hq; rw [← hq]; exact HBM.out.2))
      have HRM := Lib.hid hrm
      have HOWN := Lib.hid (HOWN.out.grown hg HMW.out)
      have HA1 := Lib.hid ((hg.block A1 (lt_of HA1.out) (by have := HMW.out; have := HA1b.out; intro e; injection e; omega)).trans HA1.out)
      clear hg hrm HLO
      unfold enC
      go_upto_region 10 with fail
      have hz := heap_alloc_new k2 (.cells #[.string wa0.id, .int .u32 wa0.idx, .int .i64 wa0.val, .string wa0.script, .int .i64 wa0.ht] 41)
      have hal : Below k2.heap.size k2 (k2.alloc (.cells #[.string wa0.id, .int .u32 wa0.idx, .int .i64 wa0.val, .string wa0.script, .int .i64 wa0.ht] 41)) := (Below.refl _ _).alloc (Nat.le_refl _) _
      obtain ⟨A2, hA2⟩ : ∃ q, q = k2.heap.size := ⟨_, rfl⟩
      rw [← hA2] at hz ⊢
      generalize k2.alloc (.cells #[.string wa0.id, .int .u32 wa0.idx, .int .i64 wa0.val, .string wa0.script, .int .i64 wa0.ht] 41) = t2 at *
      have HA2b := Lib.hid (show m < A2 by rw [hA2]; obtain ⟨n, D, ho, -⟩ := HRM.out.owns; exact ho.lt)
      have HBW := Lib.hid (HBW.out.trans (hal.mono HBW.out.size))
      have HRM := Lib.hid (HRM.out.below hal)
      have HOWN := Lib.hid (HOWN.out.below hal)
      have HA2 := Lib.hid hz
      have HA1 := Lib.hid (stay HA1.out hal)
      clear hz hal hA2
      go_wp2_with fail
      refine (listed_any _ [wa0, wa1] t2 HOWN.out.sl (by simp)).mono ?_
      rintro e l3 ⟨lv3, rfl, hlo, hxc⟩
      have HBW := Lib.hid (HBW.out.trans (hxc.mono HBW.out.size))
      have HRM := Lib.hid (HRM.out.below hxc)
      have HOWN := Lib.hid (HOWN.out.below hxc)
      have HLO := Lib.hid hlo
      have HA1 := Lib.hid (stay HA1.out hxc)
      have HA2 := Lib.hid (stay HA2.out hxc)
      clear hxc hlo
      obtain ⟨la3, lc3, rfl, -, -⟩ := ownsRow_shape HLO.out.row
      go_wp2_with fail
      refine (lease_new b m (scrT 7) (putM (putM (fun _ => none) 1 (some wa1.pt)) 2 (some wa0.pt)) 3 200 _ [wa0, wa1] l3 HRM.out (by decide) (by rfl) (by decide) HLO.out.sl).mono ?_
      rw [le_c]
      rintro e k3 ⟨rfl, hg, hrm⟩
      have HBW := Lib.hid (HBW.out.grown hg HBW.out.size (fun q hq => by injection hq with hq; rw [← hq]; exact HBM.out.2))
      have HRM := Lib.hid hrm
      have HOWN := Lib.hid (HOWN.out.grown hg HMW.out)
      have HA1 := Lib.hid ((hg.block A1 (lt_of HA1.out) (by have := HMW.out; have := HA1b.out; intro e; injection e; omega)).trans HA1.out)
      have HA2 := Lib.hid ((hg.block A2 (lt_of HA2.out) (by have := HMW.out; have := HA2b.out; intro e; injection e; omega)).trans HA2.out)
      clear hg hrm HLO
      unfold enC
      go_upto_region 11 with fail
      have hz := heap_alloc_new k3 (.cells #[.string zEn.id, .int .u32 zEn.idx, .int .i64 zEn.val, .string zEn.script, .int .i64 zEn.ht] 41)
      have hal : Below k3.heap.size k3 (k3.alloc (.cells #[.string zEn.id, .int .u32 zEn.idx, .int .i64 zEn.val, .string zEn.script, .int .i64 zEn.ht] 41)) := (Below.refl _ _).alloc (Nat.le_refl _) _
      obtain ⟨A3, hA3⟩ : ∃ q, q = k3.heap.size := ⟨_, rfl⟩
      rw [← hA3] at hz ⊢
      generalize k3.alloc (.cells #[.string zEn.id, .int .u32 zEn.idx, .int .i64 zEn.val, .string zEn.script, .int .i64 zEn.ht] 41) = t3 at *
      have HA3b := Lib.hid (show m < A3 by rw [hA3]; obtain ⟨n, D, ho, -⟩ := HRM.out.owns; exact ho.lt)
      have HBW := Lib.hid (HBW.out.trans (hal.mono HBW.out.size))
      have HRM := Lib.hid (HRM.out.below hal)
      have HOWN := Lib.hid (HOWN.out.below hal)
      have HA3 := Lib.hid hz
      have HA1 := Lib.hid (stay HA1.out hal)
      have HA2 := Lib.hid (stay HA2.out hal)
      clear hz hal hA3
      go_wp2_with fail
      refine (newr_nil t3).mono ?_
      rintro e w9 ⟨rfl, rfl⟩
      have a1 : w9.cell? ⟨A1, 2, none⟩ = some (.int .i64 300) := cell_at HA1.out
      have a2 : w9.cell? ⟨A2, 2, none⟩ = some (.int .i64 500) := cell_at HA2.out
      go_wp2_with fail
      go_ret
      exact ⟨rfl, HBW.out⟩
end Go.Proofs.Ytelindgnkpfkiaa
