/-
  ReservePlays, part 1: the texts Vl, Vm, Vs, one after another. Conditions: none beyond those named at each.
-/
import Derived.Test.YtelindgnkpfkiaaVk
section
/-
  ReserveBack: the walk. Conditions: the coins lie in memory, the numbers are uint16s.
-/
namespace Go.Proofs.Ytelindgnkpfkiaa
open Go.RowKit Go.BigFrame Go.Maps
set_option linter.unusedVariables false
set_option linter.unusedSimpArgs false

theorem leaseE_none {script : ByteArray} {M : Int → Option Pt} {key need : Int} {l : List PEn} (hk : ¬ key < 0) (hg : goodA need = true) (hc : chooseL script need (takenB M) l = none) : leaseE script M key need l = (zEn, 8, M) := by
  unfold leaseE
  rw [if_neg (by rw [hg]; simpa using hk), hc]
theorem leaseE_some {script : ByteArray} {M : Int → Option Pt} {key need : Int} {l : List PEn} {x : PEn} (hk : ¬ key < 0) (hg : goodA need = true) (hc : chooseL script need (takenB M) l = some x) : leaseE script M key need l = (x, 0, putM M key (some x.pt)) := by
  unfold leaseE
  rw [if_neg (by rw [hg]; simpa using hk), hc]
theorem relE_back {key : Int} {p : Pt} : relE (putM (fun _ => none) key (some p)) key = (0, fun _ => none) := by
  unfold relE
  have h : putM (fun _ => none) key (some p) key = some p := by simp [putM]
  rw [h]
  dsimp only
  congr 1
  funext j
  by_cases hj : j = key <;> simp [putM, hj]
theorem lit_u16 {a : Int} : (Lit.int .u16 a).wf = true ↔ 0 ≤ a ∧ a < 65536 := by
  have e1 : IntKind.u16.min = 0 := by decide
  have e2 : IntKind.u16.max = 65535 := by decide
  simp [Lit.wf, e1, e2]
  omega
theorem eqIn_en (x : PEn) (w : World) : (Op.equalIn 10000 41 (.agg #[.string x.id, .int .u32 x.idx, .int .i64 x.val, .string x.script, .int .i64 x.ht]) (.agg #[.string x.id, .int .u32 x.idx, .int .i64 x.val, .string x.script, .int .i64 x.ht])).run Try.prog w = .ok true w := by
  have hS : Try.prog.underlying 41 = some (.struct (Try.prog.fieldsOf 41)) := by kernel_rfl
  have hp : Try.prog.stoodInHeld 41 = false := by kernel_rfl
  rw [show (10000 : Nat) = 9999 + 1 from rfl, run_equalIn_agg w 9999 41 _ _ hS hp]
  simp only [Program.fieldsOf, Try.underlying41]
  have u1 := Try.underlying9
  have u2 := Try.underlying33
  have u3 := Try.underlying3
  have u4 := Try.underlying35
  have u5 := Try.underlying39
  have u6 := Try.underlying37
  go_simp
set_option maxRecDepth 100000 in
set_option maxHeartbeats 4000000 in
theorem reserveBack_walk (sl : Value) (l : List PCo) (need more : Int) (w : World) (hsl : SlAt rpCo w sl l) (h1 : (Lit.int .u16 need).wf = true) (h2 : (Lit.int .u16 more).wf = true) :
    Calls Try.prog 3 #[sl, .int .u16 need, .int .u16 more] w (BIs true w) := by
  have HSL := Lib.hid hsl
  obtain ⟨sa, sc, rfl, -, -⟩ := hsl.shape
  have hn0 : 0 ≤ need ∧ need < 65536 := by have := (@lit_u16 need).1 h1; exact this
  have hm0 : 0 ≤ more ∧ more < 65536 := by have := (@lit_u16 more).1 h2; exact this
  have hgn : goodA need = true := (goodA_iff _).2 (by omega)
  have hgm : goodA (need + more) = true := (goodA_iff _).2 (by omega)
  have HGN := Lib.hid hgn
  have HGM := Lib.hid hgm
  clear hsl h1 h2 hgn hgm
  go_enter Try.func3, Try.ntmps3
  go_wp2_with fail
  refine (newr_any 1 (by decide) (by decide) w).mono ?_
  rintro e w1 ⟨b, m, rfl, hrm, hb, hm, hbel⟩
  have HRM := Lib.hid hrm
  have HBM := Lib.hid (And.intro hb hm)
  have HBW := Lib.hid hbel
  have hmw : m < w1.heap.size := by obtain ⟨n, D, ho, -⟩ := hrm.owns; exact ho.lt
  have HMW := Lib.hid hmw
  clear hrm hb hm hbel hmw
  go_wp2_with fail
  refine (wakes23_any w1).mono ?_
  rintro e w2 ⟨rfl, hxc⟩
  have HBW := Lib.hid (HBW.out.trans (hxc.mono HBW.out.size))
  have HRM := Lib.hid (HRM.out.below hxc)
  have HSZ := Lib.hid hxc.size
  clear hxc
  go_wp2_with fail
  refine (some_any _ l w2 (HSL.out.below HBW.out)).mono ?_
  rintro e w3 ⟨v3, rfl, hso, hxc⟩
  generalize hL : ((l.map coinE).take 10) = L at *
  have hll : L.length ≤ 1000 := by rw [← hL, List.length_take]; omega
  have HBW := Lib.hid (HBW.out.trans (hxc.mono HBW.out.size))
  have HRM := Lib.hid (HRM.out.below hxc)
  have HSZ := Lib.hid (Nat.le_trans HSZ.out hxc.size)
  have HSO := Lib.hid hso
  clear hxc hso hL HSL
  obtain ⟨a3, c3, rfl, -, -⟩ := ownsRow_shape HSO.out.row
  go_wp2_with fail
  refine (listed_any _ L w3 HSO.out.sl hll).mono ?_
  rintro e w4 ⟨v4, rfl, hlo, hxc⟩
  have HBW := Lib.hid (HBW.out.trans (hxc.mono HBW.out.size))
  have HRM := Lib.hid (HRM.out.below hxc)
  have HML := Lib.hid (show m < w3.heap.size from Nat.lt_of_lt_of_le HMW.out HSZ.out)
  have HLO := Lib.hid hlo
  clear hxc hlo HSO hll
  obtain ⟨a4, c4, rfl, -, -⟩ := ownsRow_shape HLO.out.row
  have HMORE := Lib.hid (choose_more (script := scrT 1) (need := need) (more := more) (taken := takenB fun _ => none) (l := L) hm0.1)
  cases hch : chooseL (scrT 1) need (takenB fun _ => none) L with
  | none =>
    have HE := Lib.hid (leaseE_none (key := 1) (by decide) HGN.out hch)
    have HE2 := Lib.hid (leaseE_none (key := 2) (by decide) HGM.out (HMORE.out.1 hch))
    clear hch
    go_wp2_with fail
    refine (lease_new b m (scrT 1) (fun _ => none) 1 need _ L w4 HRM.out (by decide) rfl (by decide) HLO.out.sl).mono ?_
    rw [HE.out]
    rintro e k1 ⟨rfl, hg, hrm⟩
    have HBW := Lib.hid (HBW.out.grown hg HBW.out.size (fun q hq => by injection hq with hq; rw [← hq]; exact HBM.out.2))
    have HRM := Lib.hid hrm
    have HLO := Lib.hid (HLO.out.grown hg HML.out)
    clear hg hrm
    unfold enC
    go_upto_region 6 with fail
    have hz := heap_alloc_new k1 (.cells #[.string zEn.id, .int .u32 zEn.idx, .int .i64 zEn.val, .string zEn.script, .int .i64 zEn.ht] 41)
    have hal : Below k1.heap.size k1 (k1.alloc (.cells #[.string zEn.id, .int .u32 zEn.idx, .int .i64 zEn.val, .string zEn.script, .int .i64 zEn.ht] 41)) := (Below.refl _ _).alloc (Nat.le_refl _) _
    obtain ⟨A1, hA1⟩ : ∃ q, q = k1.heap.size := ⟨_, rfl⟩
    rw [← hA1] at hz ⊢
    generalize k1.alloc (.cells #[.string zEn.id, .int .u32 zEn.idx, .int .i64 zEn.val, .string zEn.script, .int .i64 zEn.ht] 41) = t1 at *
    have HA1b := Lib.hid (show m < A1 by rw [hA1]; obtain ⟨n, D, ho, -⟩ := HRM.out.owns; exact ho.lt)
    have HBW := Lib.hid (HBW.out.trans (hal.mono HBW.out.size))
    have HRM := Lib.hid (HRM.out.below hal)
    have HLO := Lib.hid (HLO.out.below hal)
    have HA1 := Lib.hid hz
    clear hz hal hA1
    go_wp2_with fail
    refine (lease_new b m (scrT 1) (fun _ => none) 2 (need + more) _ L t1 HRM.out (by decide) rfl (by decide) HLO.out.sl).mono ?_
    rw [HE2.out]
    rintro e k2 ⟨rfl, hg, hrm⟩
    have HBW := Lib.hid (HBW.out.grown hg HBW.out.size (fun q hq => by injection hq with hq; rw [← hq]; exact HBM.out.2))
    have HRM := Lib.hid hrm
    have HLO := Lib.hid (HLO.out.grown hg HML.out)
    clear hg hrm
    unfold enC
    go_upto_region 8 with fail
    have hz := heap_alloc_new k2 (.cells #[.string zEn.id, .int .u32 zEn.idx, .int .i64 zEn.val, .string zEn.script, .int .i64 zEn.ht] 41)
    have hal : Below k2.heap.size k2 (k2.alloc (.cells #[.string zEn.id, .int .u32 zEn.idx, .int .i64 zEn.val, .string zEn.script, .int .i64 zEn.ht] 41)) := (Below.refl _ _).alloc (Nat.le_refl _) _
    obtain ⟨A2, hA2⟩ : ∃ q, q = k2.heap.size := ⟨_, rfl⟩
    rw [← hA2] at hz ⊢
    generalize k2.alloc (.cells #[.string zEn.id, .int .u32 zEn.idx, .int .i64 zEn.val, .string zEn.script, .int .i64 zEn.ht] 41) = t2 at *
    have HA2b := Lib.hid (show m < A2 by rw [hA2]; obtain ⟨n, D, ho, -⟩ := HRM.out.owns; exact ho.lt)
    have HBW := Lib.hid (HBW.out.trans (hal.mono HBW.out.size))
    have HRM := Lib.hid (HRM.out.below hal)
    have HLO := Lib.hid (HLO.out.below hal)
    have HA2 := Lib.hid hz
    clear hz hal hA2
    go_wp2_with fail
    go_ret
    exact ⟨rfl, HBW.out⟩
  | some x =>
    have HE := Lib.hid (leaseE_some (key := 1) (by decide) HGN.out hch)
    have HE2 := Lib.hid (leaseE_some (key := 2) (by decide) HGN.out hch)
    have HX := Lib.hid hch
    clear hch
    go_wp2_with fail
    refine (lease_new b m (scrT 1) (fun _ => none) 1 need _ L w4 HRM.out (by decide) rfl (by decide) HLO.out.sl).mono ?_
    rw [HE.out]
    rintro e k1 ⟨rfl, hg, hrm⟩
    have HBW := Lib.hid (HBW.out.grown hg HBW.out.size (fun q hq => by injection hq with hq; rw [← hq]; exact HBM.out.2))
    have HRM := Lib.hid hrm
    have HLO := Lib.hid (HLO.out.grown hg HML.out)
    clear hg hrm
    unfold enC
    go_upto_region 6 with fail
    have hz := heap_alloc_new k1 (.cells #[.string x.id, .int .u32 x.idx, .int .i64 x.val, .string x.script, .int .i64 x.ht] 41)
    have hal : Below k1.heap.size k1 (k1.alloc (.cells #[.string x.id, .int .u32 x.idx, .int .i64 x.val, .string x.script, .int .i64 x.ht] 41)) := (Below.refl _ _).alloc (Nat.le_refl _) _
    obtain ⟨A1, hA1⟩ : ∃ q, q = k1.heap.size := ⟨_, rfl⟩
    rw [← hA1] at hz ⊢
    generalize k1.alloc (.cells #[.string x.id, .int .u32 x.idx, .int .i64 x.val, .string x.script, .int .i64 x.ht] 41) = t1 at *
    have HA1b := Lib.hid (show m < A1 by rw [hA1]; obtain ⟨n, D, ho, -⟩ := HRM.out.owns; exact ho.lt)
    have HBW := Lib.hid (HBW.out.trans (hal.mono HBW.out.size))
    have HRM := Lib.hid (HRM.out.below hal)
    have HLO := Lib.hid (HLO.out.below hal)
    have HA1 := Lib.hid hz
    clear hz hal hA1
    go_wp2_with fail
    refine (release_any b m (scrT 1) _ 1 t1 HRM.out (by decide)).mono ?_
    rw [relE_back]
    rintro e k4 ⟨rfl, hg, hrm⟩
    have HBW := Lib.hid (HBW.out.grown hg HBW.out.size (fun q hq => by injection hq with hq; rw [← hq]; exact HBM.out.2))
    have HRM := Lib.hid hrm
    have HLO := Lib.hid (HLO.out.grown hg HML.out)
    have HA1 := Lib.hid ((hg.block A1 (lt_of HA1.out) (by have := HA1b.out; intro e; injection e; omega)).trans HA1.out)
    clear hg hrm
    go_wp2_with fail
    refine (lease_new b m (scrT 1) (fun _ => none) 2 need _ L k4 HRM.out (by decide) rfl (by decide) HLO.out.sl).mono ?_
    rw [HE2.out]
    rintro e k2 ⟨rfl, hg, hrm⟩
    have HBW := Lib.hid (HBW.out.grown hg HBW.out.size (fun q hq => by injection hq with hq; rw [← hq]; exact HBM.out.2))
    have HRM := Lib.hid hrm
    have HLO := Lib.hid (HLO.out.grown hg HML.out)
    have HA1 := Lib.hid ((hg.block A1 (lt_of HA1.out) (by have := HA1b.out; intro e; injection e; omega)).trans HA1.out)
    clear hg hrm
    unfold enC
    go_upto_region 12 with fail
    have hz := heap_alloc_new k2 (.cells #[.string x.id, .int .u32 x.idx, .int .i64 x.val, .string x.script, .int .i64 x.ht] 41)
    have hal : Below k2.heap.size k2 (k2.alloc (.cells #[.string x.id, .int .u32 x.idx, .int .i64 x.val, .string x.script, .int .i64 x.ht] 41)) := (Below.refl _ _).alloc (Nat.le_refl _) _
    obtain ⟨A2, hA2⟩ : ∃ q, q = k2.heap.size := ⟨_, rfl⟩
    rw [← hA2] at hz ⊢
    generalize k2.alloc (.cells #[.string x.id, .int .u32 x.idx, .int .i64 x.val, .string x.script, .int .i64 x.ht] 41) = t2 at *
    have HA2b := Lib.hid (show m < A2 by rw [hA2]; obtain ⟨n, D, ho, -⟩ := HRM.out.owns; exact ho.lt)
    have HBW := Lib.hid (HBW.out.trans (hal.mono HBW.out.size))
    have HRM := Lib.hid (HRM.out.below hal)
    have HLO := Lib.hid (HLO.out.below hal)
    have HA2 := Lib.hid hz
    have HA1 := Lib.hid (stay HA1.out hal)
    clear hz hal hA2
    have cA10 : t2.cell? ⟨A1, 0, none⟩ = some (.string x.id) := cell_at HA1.out
    have cA11 : t2.cell? ⟨A1, 1, none⟩ = some (.int .u32 x.idx) := cell_at HA1.out
    have cA12 : t2.cell? ⟨A1, 2, none⟩ = some (.int .i64 x.val) := cell_at HA1.out
    have cA13 : t2.cell? ⟨A1, 3, none⟩ = some (.string x.script) := cell_at HA1.out
    have cA14 : t2.cell? ⟨A1, 4, none⟩ = some (.int .i64 x.ht) := cell_at HA1.out
    have cA20 : t2.cell? ⟨A2, 0, none⟩ = some (.string x.id) := cell_at HA2.out
    have cA21 : t2.cell? ⟨A2, 1, none⟩ = some (.int .u32 x.idx) := cell_at HA2.out
    have cA22 : t2.cell? ⟨A2, 2, none⟩ = some (.int .i64 x.val) := cell_at HA2.out
    have cA23 : t2.cell? ⟨A2, 3, none⟩ = some (.string x.script) := cell_at HA2.out
    have cA24 : t2.cell? ⟨A2, 4, none⟩ = some (.int .i64 x.ht) := cell_at HA2.out
    have heq := eqIn_en x
    go_wp2_with fail
    refine (release_any b m (scrT 1) _ 2 t2 HRM.out (by decide)).mono ?_
    rw [relE_back]
    rintro e k5 ⟨rfl, hg, hrm⟩
    have HBW := Lib.hid (HBW.out.grown hg HBW.out.size (fun q hq => by injection hq with hq; rw [← hq]; exact HBM.out.2))
    have HRM := Lib.hid hrm
    have HLO := Lib.hid (HLO.out.grown hg HML.out)
    have HA1 := Lib.hid ((hg.block A1 (lt_of HA1.out) (by have := HA1b.out; intro e; injection e; omega)).trans HA1.out)
    clear hg hrm
    clear cA10 cA11 cA12 cA13 cA14 cA20 cA21 cA22 cA23 cA24 heq
    cases hcm : chooseL (scrT 1) (need + more) (takenB fun _ => none) L with
    | none =>
      have HE3 := Lib.hid (leaseE_none (key := 3) (by decide) HGM.out hcm)
      clear hcm
      go_wp2_with fail
      refine (lease_new b m (scrT 1) (fun _ => none) 3 (need + more) _ L k5 HRM.out (by decide) rfl (by decide) HLO.out.sl).mono ?_
      rw [HE3.out]
      rintro e k3 ⟨rfl, hg, hrm⟩
      have HBW := Lib.hid (HBW.out.grown hg HBW.out.size (fun q hq => by injection hq with hq; rw [← hq]; exact HBM.out.2))
      have HRM := Lib.hid hrm
      have HLO := Lib.hid (HLO.out.grown hg HML.out)
      have HA1 := Lib.hid ((hg.block A1 (lt_of HA1.out) (by have := HA1b.out; intro e; injection e; omega)).trans HA1.out)
      clear hg hrm
      unfold enC
      go_upto_region 15 with fail
      have hz := heap_alloc_new k3 (.cells #[.string zEn.id, .int .u32 zEn.idx, .int .i64 zEn.val, .string zEn.script, .int .i64 zEn.ht] 41)
      have hal : Below k3.heap.size k3 (k3.alloc (.cells #[.string zEn.id, .int .u32 zEn.idx, .int .i64 zEn.val, .string zEn.script, .int .i64 zEn.ht] 41)) := (Below.refl _ _).alloc (Nat.le_refl _) _
      obtain ⟨A3, hA3⟩ : ∃ q, q = k3.heap.size := ⟨_, rfl⟩
      rw [← hA3] at hz ⊢
      generalize k3.alloc (.cells #[.string zEn.id, .int .u32 zEn.idx, .int .i64 zEn.val, .string zEn.script, .int .i64 zEn.ht] 41) = t3 at *
      have HA3b := Lib.hid (show m < A3 by rw [hA3]; obtain ⟨n, D, ho, -⟩ := HRM.out.owns; exact ho.lt)
      have HBW := Lib.hid (HBW.out.trans (hal.mono HBW.out.size))
      have HRM := Lib.hid (HRM.out.below hal)
      have HLO := Lib.hid (HLO.out.below hal)
      have HA3 := Lib.hid hz
      have HA1 := Lib.hid (stay HA1.out hal)
      clear hz hal hA3
      go_wp2_with fail
      go_ret
      exact ⟨rfl, HBW.out⟩
    | some y =>
      have HE3 := Lib.hid (leaseE_some (key := 3) (by decide) HGM.out hcm)
      have hxy : x.val ≤ y.val := HMORE.out.2 x y HX.out hcm
      clear hcm
      go_wp2_with fail
      refine (lease_new b m (scrT 1) (fun _ => none) 3 (need + more) _ L k5 HRM.out (by decide) rfl (by decide) HLO.out.sl).mono ?_
      rw [HE3.out]
      rintro e k3 ⟨rfl, hg, hrm⟩
      have HBW := Lib.hid (HBW.out.grown hg HBW.out.size (fun q hq => by injection hq with hq; rw [← hq]; exact HBM.out.2))
      have HRM := Lib.hid hrm
      have HLO := Lib.hid (HLO.out.grown hg HML.out)
      have HA1 := Lib.hid ((hg.block A1 (lt_of HA1.out) (by have := HA1b.out; intro e; injection e; omega)).trans HA1.out)
      clear hg hrm
      unfold enC
      go_upto_region 15 with fail
      have hz := heap_alloc_new k3 (.cells #[.string y.id, .int .u32 y.idx, .int .i64 y.val, .string y.script, .int .i64 y.ht] 41)
      have hal : Below k3.heap.size k3 (k3.alloc (.cells #[.string y.id, .int .u32 y.idx, .int .i64 y.val, .string y.script, .int .i64 y.ht] 41)) := (Below.refl _ _).alloc (Nat.le_refl _) _
      obtain ⟨A3, hA3⟩ : ∃ q, q = k3.heap.size := ⟨_, rfl⟩
      rw [← hA3] at hz ⊢
      generalize k3.alloc (.cells #[.string y.id, .int .u32 y.idx, .int .i64 y.val, .string y.script, .int .i64 y.ht] 41) = t3 at *
      have HA3b := Lib.hid (show m < A3 by rw [hA3]; obtain ⟨n, D, ho, -⟩ := HRM.out.owns; exact ho.lt)
      have HBW := Lib.hid (HBW.out.trans (hal.mono HBW.out.size))
      have HRM := Lib.hid (HRM.out.below hal)
      have HLO := Lib.hid (HLO.out.below hal)
      have HA3 := Lib.hid hz
      have HA1 := Lib.hid (stay HA1.out hal)
      clear hz hal hA3
      have d1 : t3.cell? ⟨A1, 2, none⟩ = some (.int .i64 x.val) := cell_at HA1.out
      have d3 : t3.cell? ⟨A3, 2, none⟩ = some (.int .i64 y.val) := cell_at HA3.out
      go_wp2_with fail
      go_ret
      exact ⟨rfl, HBW.out⟩
end Go.Proofs.Ytelindgnkpfkiaa
end

section
/-
  ReserveBack's coins, as they are handed in. Conditions: none.
-/
namespace Go.Proofs.Ytelindgnkpfkiaa
open Go.RowKit Go.ChangeShapes Go.WideShapes
set_option linter.unusedVariables false
set_option linter.unusedSimpArgs false
theorem wf_u8v {n : Int} (h : (Lit.int .u8 n).wf = true) : 0 ≤ n ∧ n ≤ 255 := by simpa [Lit.wf, IntKind.min, IntKind.max, IntKind.signed, IntKind.bits] using h
section
variable {H : Type} {enc : TypeId × Value → H} {w : World} {spare : Nat → Bool} {held : Bool}
set_option maxRecDepth 100000 in
theorem rp_of_co {fuel : Nat} {cs : List Value} {y : DataW H × List MemPlace} (h : DataW.trod enc Try.prog w 0 spare held fuel 82 cs = some y) : ∃ x, rpCo.at_ w cs x := by
  obtain ⟨xs, n, _, _, hl, hlen, hf⟩ := DataW.trod_struct Try.underlying82 h
  have hc : Try.prog.cellsOf 82 = 4 := by kernel_rfl
  rw [hc] at hl
  match cs, hl with
  | [c0, c1, c2, c3], _ =>
    have hlen' : xs.length = 4 := hlen
    have g0 := hf 0 _ rfl
    have g1 := hf 1 _ rfl
    have g2 := hf 2 _ rfl
    have g3 := hf 3 _ rfl
    rw [List.getElem?_eq_getElem (by omega)] at g0 g1 g2 g3
    obtain ⟨n0, e0, w0⟩ := rp_of_int Try.underlying5 g0
    have k0 : Try.prog.cellsOf 5 = 1 := by kernel_rfl
    have e0' : ([c0, c1, c2, c3].drop 0).take (Try.prog.cellsOf 5) = [.int .u8 n0] := e0
    rw [k0] at e0'
    obtain ⟨n1, e1, w1⟩ := rp_of_int Try.underlying5 g1
    have k1 : Try.prog.cellsOf 5 = 1 := by kernel_rfl
    have e1' : ([c0, c1, c2, c3].drop 1).take (Try.prog.cellsOf 5) = [.int .u8 n1] := e1
    rw [k1] at e1'
    obtain ⟨n2, e2, w2⟩ := rp_of_int Try.underlying5 g2
    have k2 : Try.prog.cellsOf 5 = 1 := by kernel_rfl
    have e2' : ([c0, c1, c2, c3].drop 2).take (Try.prog.cellsOf 5) = [.int .u8 n2] := e2
    rw [k2] at e2'
    obtain ⟨n3, e3, w3⟩ := rp_of_int Try.underlying3 g3
    have k3 : Try.prog.cellsOf 3 = 1 := by kernel_rfl
    have e3' : ([c0, c1, c2, c3].drop 3).take (Try.prog.cellsOf 3) = [.int .i64 n3] := e3
    rw [k3] at e3'
    have f0 : c0 = .int .u8 n0 := by simpa using e0'
    have f1 : c1 = .int .u8 n1 := by simpa using e1'
    have f2 : c2 = .int .u8 n2 := by simpa using e2'
    have f3 : c3 = .int .i64 n3 := by simpa using e3'
    have b0 := wf_u8v w0
    have b1 := wf_u8v w1
    have b2 := wf_u8v w2
    refine ⟨⟨n0.toNat, n1.toNat, n2.toNat, n3⟩, ?_, ⟨by dsimp only; omega, by dsimp only; omega, by dsimp only; omega, wf_i64 w3⟩⟩
    dsimp only
    rw [f0, f1, f2, f3, show ((n0.toNat : Nat) : Int) = n0 by omega, show ((n1.toNat : Nat) : Int) = n1 by omega, show ((n2.toNat : Nat) : Int) = n2 by omega]
end
set_option maxRecDepth 100000 in
theorem open_cos {H : Type} {enc : TypeId × Value → H} {w : World} {v : Value} {d : DataW H} {ps : List MemPlace} (hv : Value.okWide Try.prog w .any 0 22 v) (h : DataW.Trod enc Try.prog w 0 (fun _ => true) true 22 v d ps) :
    ∃ l : List PCo, SlAt rpCo w v l := by
  obtain ⟨a, n, c, rfl⟩ := Go.WideShapes.okWide_slice Try.underlying22 hv
  obtain ⟨fuel, hf⟩ := h
  obtain ⟨l, u, e, hu⟩ := rp_of_slice (R := rpCo) Try.underlying22 (by kernel_rfl) (by decide) (fun _ _ _ => rp_of_co) hf
  have e' : Value.slice a n c = u := by simpa [Value.cells] using e
  exact ⟨l, e' ▸ hu⟩
end Go.Proofs.Ytelindgnkpfkiaa
end

section
/-
  What is done to a reserve, as data, as it is handed in. Conditions: none.
-/
namespace Go.Proofs.Ytelindgnkpfkiaa
open Go.RowKit Go.ChangeShapes Go.WideShapes
set_option linter.unusedVariables false
set_option linter.unusedSimpArgs false
structure PAct where
  do_ : Nat
  key : Int
  need : Int
  id : ByteArray
  idx : Nat
  coins : List PCo
  odd : Bool
structure PAct.Ok (x : PAct) : Prop where
  do_ : x.do_ < 256
  key : -9223372036854775808 ≤ x.key ∧ x.key ≤ 9223372036854775807
  need : -9223372036854775808 ≤ x.need ∧ x.need ≤ 9223372036854775807
  id : x.id.size ≤ maxLen
  idx : x.idx < 4294967296
def rpAct : Rp PAct := ⟨7, fun w cs x => ∃ v, cs = [.int .u8 x.do_, .int .i64 x.key, .int .i64 x.need, .string x.id, .int .u32 x.idx, v, .bool x.odd] ∧ SlAt rpCo w v x.coins ∧ x.Ok, fun hw ⟨v, h1, h2, h3⟩ => ⟨v, h1, h2.mono hw, h3⟩⟩
theorem SlAt.act {w : World} {a : Option Addr} {n c i : Nat} {xs : List PAct} (h : SlAt rpAct w (.slice a n c) xs) (hi : i < n) : ∃ (b o : Nat) (x : PAct) (sa : Option Addr) (sn sc : Nat), a = some ⟨b, o, none⟩ ∧ xs[i]? = some x ∧ x.Ok ∧ SlAt rpCo w (.slice sa sn sc) x.coins ∧
    w.cell? ⟨b, o + i * 7, none⟩ = some (.int .u8 x.do_) ∧ w.cell? ⟨b, o + i * 7 + 1, none⟩ = some (.int .i64 x.key) ∧ w.cell? ⟨b, o + i * 7 + 2, none⟩ = some (.int .i64 x.need) ∧ w.cell? ⟨b, o + i * 7 + 3, none⟩ = some (.string x.id) ∧ w.cell? ⟨b, o + i * 7 + 4, none⟩ = some (.int .u32 x.idx) ∧
    w.cell? ⟨b, o + i * 7 + 5, none⟩ = some (.slice sa sn sc) ∧ w.cell? ⟨b, o + i * 7 + 6, none⟩ = some (.bool x.odd) := by
  obtain ⟨b, o, x, cs, h1, h2, h3, h4, v, h5, h6, h7⟩ := h.at hi
  subst h5
  obtain ⟨sa, sc, rfl, -, -⟩ := h6.shape
  exact ⟨b, o, x, sa, _, sc, h1, h2, h7, h6, h4 0 _ rfl, h4 1 _ rfl, h4 2 _ rfl, h4 3 _ rfl, h4 4 _ rfl, h4 5 _ rfl, h4 6 _ rfl⟩
section
variable {H : Type} {enc : TypeId × Value → H} {w : World} {spare : Nat → Bool} {held : Bool}
set_option maxRecDepth 100000 in
theorem rp_of_act {fuel : Nat} {cs : List Value} {y : DataW H × List MemPlace} (h : DataW.trod enc Try.prog w 0 spare held fuel 49 cs = some y) : ∃ x, rpAct.at_ w cs x := by
  obtain ⟨xs, n, _, _, hl, hlen, hf⟩ := DataW.trod_struct Try.underlying49 h
  have hc : Try.prog.cellsOf 49 = 7 := by kernel_rfl
  rw [hc] at hl
  match cs, hl with
  | [c0, c1, c2, c3, c4, c5, c6], _ =>
    have hlen' : xs.length = 6 := hlen
    have g0 := hf 0 _ rfl
    have g1 := hf 1 _ rfl
    have g2 := hf 2 _ rfl
    have g3 := hf 3 _ rfl
    have g4 := hf 4 _ rfl
    have g5 := hf 5 _ rfl
    rw [List.getElem?_eq_getElem (by omega)] at g0 g1 g2 g3 g4 g5
    have k8 : Try.prog.cellsOf 5 = 1 := by kernel_rfl
    have ki : Try.prog.cellsOf 3 = 1 := by kernel_rfl
    have kp : Try.prog.cellsOf 35 = 2 := by kernel_rfl
    have ks : Try.prog.cellsOf 22 = 1 := by kernel_rfl
    have kb : Try.prog.cellsOf 4 = 1 := by kernel_rfl
    obtain ⟨n0, e0, w0⟩ := rp_of_int Try.underlying5 g0
    obtain ⟨n1, e1, w1⟩ := rp_of_int Try.underlying3 g1
    obtain ⟨n2, e2, w2⟩ := rp_of_int Try.underlying3 g2
    obtain ⟨s3, n3, e3, w3, w3'⟩ := rp_of_point g3
    obtain ⟨ks4, v4, e4, w4⟩ := rp_of_slice (R := rpCo) Try.underlying22 (by kernel_rfl) (by decide) (fun _ _ _ => rp_of_co) g4
    obtain ⟨b5, e5⟩ := rp_of_bool Try.underlying4 g5
    have e0' : ([c0, c1, c2, c3, c4, c5, c6].drop 0).take (Try.prog.cellsOf 5) = [.int .u8 n0] := e0
    have e1' : ([c0, c1, c2, c3, c4, c5, c6].drop 1).take (Try.prog.cellsOf 3) = [.int .i64 n1] := e1
    have e2' : ([c0, c1, c2, c3, c4, c5, c6].drop 2).take (Try.prog.cellsOf 3) = [.int .i64 n2] := e2
    have e3' : ([c0, c1, c2, c3, c4, c5, c6].drop 3).take (Try.prog.cellsOf 35) = [.string s3, .int .u32 n3] := e3
    have e4' : ([c0, c1, c2, c3, c4, c5, c6].drop 5).take (Try.prog.cellsOf 22) = [v4] := e4
    have e5' : ([c0, c1, c2, c3, c4, c5, c6].drop 6).take (Try.prog.cellsOf 4) = [.bool b5] := e5
    rw [k8] at e0'
    rw [ki] at e1' e2'
    rw [kp] at e3'
    rw [ks] at e4'
    rw [kb] at e5'
    have f0 : c0 = .int .u8 n0 := by simpa using e0'
    have f1 : c1 = .int .i64 n1 := by simpa using e1'
    have f2 : c2 = .int .i64 n2 := by simpa using e2'
    obtain ⟨f3, f4⟩ : c3 = .string s3 ∧ c4 = .int .u32 n3 := by simpa using e3'
    have f5 : c5 = v4 := by simpa using e4'
    have f6 : c6 = .bool b5 := by simpa using e5'
    have b0 := wf_u8v w0
    refine ⟨⟨n0.toNat, n1, n2, s3, n3, ks4, b5⟩, v4, ?_, w4, ⟨by dsimp only; omega, wf_i64 w1, wf_i64 w2, w3, w3'⟩⟩
    dsimp only
    rw [f0, f1, f2, f3, f4, f5, f6, show ((n0.toNat : Nat) : Int) = n0 by omega]
end
set_option maxRecDepth 100000 in
theorem open_acts {H : Type} {enc : TypeId × Value → H} {w : World} {v : Value} {d : DataW H} {ps : List MemPlace} (hv : Value.okWide Try.prog w .any 0 46 v) (h : DataW.Trod enc Try.prog w 0 (fun _ => true) true 46 v d ps) :
    ∃ l : List PAct, SlAt rpAct w v l := by
  obtain ⟨a, n, c, rfl⟩ := Go.WideShapes.okWide_slice Try.underlying46 hv
  obtain ⟨fuel, hf⟩ := h
  obtain ⟨l, u, e, hu⟩ := rp_of_slice (R := rpAct) Try.underlying46 (by kernel_rfl) (by decide) (fun _ _ _ => rp_of_act) hf
  have e' : Value.slice a n c = u := by simpa [Value.cells] using e
  exact ⟨l, e' ▸ hu⟩
end Go.Proofs.Ytelindgnkpfkiaa
end
