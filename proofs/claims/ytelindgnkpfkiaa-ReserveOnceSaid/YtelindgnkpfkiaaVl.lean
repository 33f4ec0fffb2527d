/-
  ReserveBack: the walk. Conditions: the coins lie in memory, the numbers are uint16s.
-/
import Derived.Test.YtelindgnkpfkiaaVk
namespace Go.Proofs.Ytelindgnkpfkiaa
open Go.RowKit Go.BigFrame Go.Maps
set_option linter.unusedVariables false
set_option linter.unusedSimpArgs false

theorem leaseE_none {script : ByteArray} {M : Int → Option Pt} {key need : Int} {l : List PEn} (hk : ¬ key < 0) (hg : goodA need = true) (hc : chooseL script need (takenB M) l = none) : leaseE script M key need l = (zEn, 8, M) := by
  unfold leaseE
  rw [if_neg (by rw [hg]; simpa using hk), hc]
theorem leaseE_some {script : ByteArray} {M : Int → Option Pt} {key need : Int} {l : List PEn} {x : PEn} (hk : ¬ key < 0) (hg : goodA need = true) (hc : chooseL script need (takenB M) l = some x) : leaseE script M key need l = (x, 0, putM M key (some x.pt)) := by
  unfold leaseE
  rw [if_neg (by rw [hg]; simpa using hk), hc]
theorem relE_back {key : Int} {p : Pt} : relE (putM (fun _ => none) key (some p)) key = (0, fun _ => none) := by
  unfold relE
  have h : putM (fun _ => none) key (some p) key = some p := by simp [putM]
  rw [h]
  dsimp only
  congr 1
  funext j
  by_cases hj : j = key <;> simp [putM, hj]
theorem lit_u16 {a : Int} : (Lit.int .u16 a).wf = true ↔ 0 ≤ a ∧ a < 65536 := by
  have e1 : IntKind.u16.min = 0 := by decide
  have e2 : IntKind.u16.max = 65535 := by decide
  simp [Lit.wf, e1, e2]
  omega
theorem eqIn_en (x : PEn) (w : World) : (Op.equalIn 10000 41 (.agg #[.string x.id, .int .u32 x.idx, .int .i64 x.val, .string x.script, .int .i64 x.ht]) (.agg #[.string x.id, .int .u32 x.idx, .int .i64 x.val, .string x.script, .int .i64 x.ht])).run Try.prog w = .ok true w := by
  have hS : Try.prog.underlying 41 = some (.struct (Try.prog.fieldsOf 41)) := by kernel_rfl
  have hp : Try.prog.stoodInHeld 41 = false := by kernel_rfl
  rw [show (10000 : Nat) = 9999 + 1 from rfl, run_equalIn_agg w 9999 41 _ _ hS hp]
  simp only [Program.fieldsOf, Try.underlying41]
  have u1 := Try.underlying9
  have u2 := Try.underlying33
  have u3 := Try.underlying3
  have u4 := Try.underlying35
  have u5 := Try.underlying39
  have u6 := Try.underlying37
  go_simp
set_option maxRecDepth 100000 in
set_option maxHeartbeats 4000000 in
theorem reserveBack_walk (sl : Value) (l : List PCo) (need more : Int) (w : World) (hsl : SlAt rpCo w sl l) (h1 : (Lit.int .u16 need).wf = true) (h2 : (Lit.int .u16 more).wf = true) :
    Calls Try.prog 3 #[sl, .int .u16 need, .int .u16 more] w (BIs true w) := by
  have HSL := Lib.hid hsl
  obtain ⟨sa, sc, rfl, -, -⟩ := hsl.shape
  have hn0 : 0 ≤ need ∧ need < 65536 := by have := (@lit_u16 need).1 h1; exact this
  have hm0 : 0 ≤ more ∧ more < 65536 := by have := (@lit_u16 more).1 h2; exact this
  have hgn : goodA need = true := (goodA_iff _).2 (by omega)
  have hgm : goodA (need + more) = true := (goodA_iff _).2 (by omega)
  have HGN := Lib.hid hgn
  have HGM := Lib.hid hgm
  clear hsl h1 h2 hgn hgm
  go_enter Try.func3, Try.ntmps3
  go_wp2_with fail
  refine (newr_any 1 (by decide) (by decide) w).mono ?_
  rintro e w1 ⟨b, m, rfl, hrm, hb, hm, hbel⟩
  have HRM := Lib.hid hrm
  have HBM := Lib.hid (And.intro hb hm)
  have HBW := Lib.hid hbel
  have hmw : m < w1.heap.size := by obtain ⟨n, D, ho, -⟩ := hrm.owns; exact ho.lt
  have HMW := Lib.hid hmw
  clear hrm hb hm hbel hmw
  go_wp2_with fail
  refine (wakes23_any w1).mono ?_
  rintro e w2 ⟨rfl, hxc⟩
  have HBW := Lib.hid (HBW.out.trans (hxc.mono HBW.out.size))
  have HRM := Lib.hid (HRM.out.below hxc)
  have HSZ := Lib.hid hxc.size
  clear hxc
  go_wp2_with fail
  refine (some_any _ l w2 (HSL.out.below HBW.out)).mono ?_
  rintro e w3 ⟨v3, rfl, hso, hxc⟩
  generalize hL : ((l.map coinE).take 10) = L at *
  have hll : L.length ≤ 1000 := by rw [← hL, List.length_take]; omega
  have HBW := Lib.hid (HBW.out.trans (hxc.mono HBW.out.size))
  have HRM := Lib.hid (HRM.out.below hxc)
  have HSZ := Lib.hid (Nat.le_trans HSZ.out hxc.size)
  have HSO := Lib.hid hso
  clear hxc hso hL HSL
  obtain ⟨a3, c3, rfl, -, -⟩ := ownsRow_shape HSO.out.row
  go_wp2_with fail
  refine (listed_any _ L w3 HSO.out.sl hll).mono ?_
  rintro e w4 ⟨v4, rfl, hlo, hxc⟩
  have HBW := Lib.hid (HBW.out.trans (hxc.mono HBW.out.size))
  have HRM := Lib.hid (HRM.out.below hxc)
  have HML := Lib.hid (show m < w3.heap.size from Nat.lt_of_lt_of_le HMW.out HSZ.out)
  have HLO := Lib.hid hlo
  clear hxc hlo HSO hll
  obtain ⟨a4, c4, rfl, -, -⟩ := ownsRow_shape HLO.out.row
  have HMORE := Lib.hid (choose_more (script := scrT 1) (need := need) (more := more) (taken := takenB fun _ => none) (l := L) hm0.1)
  cases hch : chooseL (scrT 1) need (takenB fun _ => none) L with
  | none =>
    have HE := Lib.hid (leaseE_none (key := 1) (by decide) HGN.out hch)
    have HE2 := Lib.hid (leaseE_none (key := 2) (by decide) HGM.out (HMORE.out.1 hch))
    clear hch
    go_wp2_with fail
    refine (lease_new b m (scrT 1) (fun _ => none) 1 need _ L w4 HRM.out (by decide) rfl (by decide) HLO.out.sl).mono ?_
    rw [HE.out]
    rintro e k1 ⟨rfl, hg, hrm⟩
    have HBW := Lib.hid (HBW.out.grown hg HBW.out.size (fun q hq => by injection hq with hq; rw [← hq]; exact HBM.out.2))
    have HRM := Lib.hid hrm
    have HLO := Lib.hid (HLO.out.grown hg HML.out)
    clear hg hrm
    unfold enC
    go_upto_region 6 with fail
    have hz := heap_alloc_new k1 (.cells #[.string zEn.id, .int .u32 zEn.idx, .int .i64 zEn.val, .string zEn.script, .int .i64 zEn.ht] 41)
    have hal : Below k1.heap.size k1 (k1.alloc (.cells #[.string zEn.id, .int .u32 zEn.idx, .int .i64 zEn.val, .string zEn.script, .int .i64 zEn.ht] 41)) := (Below.refl _ _).alloc (Nat.le_refl _) _
    obtain ⟨A1, hA1⟩ : ∃ q, q = k1.heap.size := ⟨_, rfl⟩
    rw [← hA1] at hz ⊢
    generalize k1.alloc (.cells #[.string zEn.id, .int .u32 zEn.idx, .int .i64 zEn.val, .string zEn.script, .int .i64 zEn.ht] 41) = t1 at *
    have HA1b := Lib.hid (show m < A1 by rw [hA1]; obtain ⟨n, D, ho, -⟩ := HRM.out.owns; exact ho.lt)
    have HBW := Lib.hid (HBW.out.trans (hal.mono HBW.out.size))
    have HRM := Lib.hid (HRM.out.below hal)
    have HLO := Lib.hid (HLO.out.below hal)
    have HA1 := Lib.hid hz
    clear hz hal hA1
    go_wp2_with fail
    refine (lease_new b m (scrT 1) (fun _ => none) 2 (need + more) _ L t1 HRM.out (by decide) rfl (by decide) HLO.out.sl).mono ?_
    rw [HE2.out]
    rintro e k2 ⟨rfl, hg, hrm⟩
    have HBW := Lib.hid (HBW.out.grown hg HBW.out.size (fun q hq => by injection hq with hq; rw [← hq]; exact HBM.out.2))
    have HRM := Lib.hid hrm
    have HLO := Lib.hid (HLO.out.grown hg HML.out)
    clear hg hrm
    unfold enC
    go_upto_region 8 with fail
    have hz := heap_alloc_new k2 (.cells #[.string zEn.id, .int .u32 zEn.idx, .int .i64 zEn.val, .string zEn.script, .int .i64 zEn.ht] 41)
    have hal : Below k2.heap.size k2 (k2.alloc (.cells #[.string zEn.id, .int .u32 zEn.idx, .int .i64 zEn.val, .string zEn.script, .int .i64 zEn.ht] 41)) := (Below.refl _ _).alloc (Nat.le_refl _) _
    obtain ⟨A2, hA2⟩ : ∃ q, q = k2.heap.size := ⟨_, rfl⟩
    rw [← hA2] at hz ⊢
    generalize k2.alloc (.cells #[.string zEn.id, .int .u32 zEn.idx, .int .i64 zEn.val, .string zEn.script, .int .i64 zEn.ht] 41) = t2 at *
    have HA2b := Lib.hid (show m < A2 by rw [hA2]; obtain ⟨n, D, ho, -⟩ := HRM.out.owns; exact ho.lt)
    have HBW := Lib.hid (HBW.out.trans (hal.mono HBW.out.size))
    have HRM := Lib.hid (HRM.out.below hal)
    have HLO := Lib.hid (HLO.out.below hal)
    have HA2 := Lib.hid hz
    clear hz hal hA2
    go_wp2_with fail
    go_ret
    exact ⟨rfl, HBW.out⟩
  | some x =>
    have HE := Lib.hid (leaseE_some (key := 1) (by decide) HGN.out hch)
    have HE2 := Lib.hid (leaseE_some (key := 2) (by decide) HGN.out hch)
    have HX := Lib.hid hch
    clear hch
    go_wp2_with fail
    refine (lease_new b m (scrT 1) (fun _ => none) 1 need _ L w4 HRM.out (by decide) rfl (by decide) HLO.out.sl).mono ?_
    rw [HE.out]
    rintro e k1 ⟨rfl, hg, hrm⟩
    have HBW := Lib.hid (HBW.out.grown hg HBW.out.size (fun q hq => by injection hq with hq; rw [← hq]; exact HBM.out.2))
    have HRM := Lib.hid hrm
    have HLO := Lib.hid (HLO.out.grown hg HML.out)
    clear hg hrm
    unfold enC
    go_upto_region 6 with fail
    have hz := heap_alloc_new k1 (.cells #[.string x.id, .int .u32 x.idx, .int .i64 x.val, .string x.script, .int .i64 x.ht] 41)
    have hal : Below k1.heap.size k1 (k1.alloc (.cells #[.string x.id, .int .u32 x.idx, .int .i64 x.val, .string x.script, .int .i64 x.ht] 41)) := (Below.refl _ _).alloc (Nat.le_refl _) _
    obtain ⟨A1, hA1⟩ : ∃ q, q = k1.heap.size := ⟨_, rfl⟩
    rw [← hA1] at hz ⊢
    generalize k1.alloc (.cells #[.string x.id, .int .u32 x.idx, .int .i64 x.val, .string x.script, .int .i64 x.ht] 41) = t1 at *
    have HA1b := Lib.hid (show m < A1 by rw [hA1]; obtain ⟨n, D, ho, -⟩ := HRM.out.owns; exact ho.lt)
    have HBW := Lib.hid (HBW.out.trans (hal.mono HBW.out.size))
    have HRM := Lib.hid (HRM.out.below hal)
    have HLO := Lib.hid (HLO.out.below hal)
    have HA1 := Lib.hid hz
    clear hz hal hA1
    go_wp2_with fail
    refine (release_any b m (scrT 1) _ 1 t1 HRM.out (by decide)).mono ?_
    rw [relE_back]
    rintro e k4 ⟨rfl, hg, hrm⟩
    have HBW := Lib.hid (HBW.out.grown hg HBW.out.size (fun q hq => by injection hq with hq; rw [← hq]; exact HBM.out.2))
    have HRM := Lib.hid hrm
    have HLO := Lib.hid (HLO.out.grown hg HML.out)
    have HA1 := Lib.hid ((hg.block A1 (lt_of HA1.out) (by have := HA1b.out; intro e; injection e; omega)).trans HA1.out)
    clear hg hrm
    go_wp2_with fail
    refine (lease_new b m (scrT 1) (fun _ => none) 2 need _ L k4 HRM.out (by decide) rfl (by decide) HLO.out.sl).mono ?_
    rw [HE2.out]
    rintro e k2 ⟨rfl, hg, hrm⟩
    have HBW := Lib.hid (HBW.out.grown hg HBW.out.size (fun q hq => by injection hq with hq; rw [← hq]; exact HBM.out.2))
    have HRM := Lib.hid hrm
    have HLO := Lib.hid (HLO.out.grown hg HML.out)
    have HA1 := Lib.hid ((hg.block A1 (lt_of HA1.out) (by have := HA1b.out; intro e; injection e; omega)).trans HA1.out)
    clear hg hrm
    unfold enC
    go_upto_region 12 with fail
    have hz := heap_alloc_new k2 (.cells #[.string x.id, .int .u32 x.idx, .int .i64 x.val, .string x.script, .int .i64 x.ht] 41)
    have hal : Below k2.heap.size k2 (k2.alloc (.cells #[.string x.id, .int .u32 x.idx, .int .i64 x.val, .string x.script, .int .i64 x.ht] 41)) := (Below.refl _ _).alloc (Nat.le_refl _) _
    obtain ⟨A2, hA2⟩ : ∃ q, q = k2.heap.size := ⟨_, rfl⟩
    rw [← hA2] at hz ⊢
    generalize k2.alloc (.cells #[.string x.id, .int .u32 x.idx, .int .i64 x.val, .string x.script, .int .i64 x.ht] 41) = t2 at *
    have HA2b := Lib.hid (show m < A2 by rw [hA2]; obtain ⟨n, D, ho, -⟩ := HRM.out.owns; exact ho.lt)
    have HBW := Lib.hid (HBW.out.trans (hal.mono HBW.out.size))
    have HRM := Lib.hid (HRM.out.below hal)
    have HLO := Lib.hid (HLO.out.below hal)
    have HA2 := Lib.hid hz
    have HA1 := Lib.hid (stay HA1.out hal)
    clear hz hal hA2
    have cA10 : t2.cell? ⟨A1, 0, none⟩ = some (.string x.id) := cell_at HA1.out
    have cA11 : t2.cell? ⟨A1, 1, none⟩ = some (.int .u32 x.idx) := cell_at HA1.out
    have cA12 : t2.cell? ⟨A1, 2, none⟩ = some (.int .i64 x.val) := cell_at HA1.out
    have cA13 : t2.cell? ⟨A1, 3, none⟩ = some (.string x.script) := cell_at HA1.out
    have cA14 : t2.cell? ⟨A1, 4, none⟩ = some (.int .i64 x.ht) := cell_at HA1.out
    have cA20 : t2.cell? ⟨A2, 0, none⟩ = some (.string x.id) := cell_at HA2.out
    have cA21 : t2.cell? ⟨A2, 1, none⟩ = some (.int .u32 x.idx) := cell_at HA2.out
    have cA22 : t2.cell? ⟨A2, 2, none⟩ = some (.int .i64 x.val) := cell_at HA2.out
    have cA23 : t2.cell? ⟨A2, 3, none⟩ = some (.string x.script) := cell_at HA2.out
    have cA24 : t2.cell? ⟨A2, 4, none⟩ = some (.int .i64 x.ht) := cell_at HA2.out
    have heq := eqIn_en x
    go_wp2_with fail
    refine (release_any b m (scrT 1) _ 2 t2 HRM.out (by decide)).mono ?_
    rw [relE_back]
    rintro e k5 ⟨rfl, hg, hrm⟩
    have HBW := Lib.hid (HBW.out.grown hg HBW.out.size (fun q hq => by injection hq with hq; rw [← hq]; exact HBM.out.2))
    have HRM := Lib.hid hrm
    have HLO := Lib.hid (HLO.out.grown hg HML.out)
    have HA1 := Lib.hid ((hg.block A1 (lt_of HA1.out) (by have := HA1b.out; intro e; injection e; omega)).trans HA1.out)
    clear hg hrm
    clear cA10 cA11 cA12 cA13 cA14 cA20 cA21 cA22 cA23 cA24 heq
    cases hcm : chooseL (scrT 1) (need + more) (takenB fun _ => none) L with
    | none =>
      have HE3 := Lib.hid (leaseE_none (key := 3) (by decide) HGM.out hcm)
      clear hcm
      go_wp2_with fail
      refine (lease_new b m (scrT 1) (fun _ => none) 3 (need + more) _ L k5 HRM.out (by decide) rfl (by decide) HLO.out.sl).mono ?_
      rw [HE3.out]
      rintro e k3 ⟨rfl, hg, hrm⟩
      have HBW := Lib.hid (HBW.out.grown hg HBW.out.size (fun q hq => by injection hq with hq; rw [← hq]; exact HBM.out.2))
      have HRM := Lib.hid hrm
      have HLO := Lib.hid (HLO.out.grown hg HML.out)
      have HA1 := Lib.hid ((hg.block A1 (lt_of HA1.out) (by have := HA1b.out; intro e; injection e; omega)).trans HA1.out)
      clear hg hrm
      unfold enC
      go_upto_region 15 with fail
      have hz := heap_alloc_new k3 (.cells #[.string zEn.id, .int .u32 zEn.idx, .int .i64 zEn.val, .string zEn.script, .int .i64 zEn.ht] 41)
      have hal : Below k3.heap.size k3 (k3.alloc (.cells #[.string zEn.id, .int .u32 zEn.idx, .int .i64 zEn.val, .string zEn.script, .int .i64 zEn.ht] 41)) := (Below.refl _ _).alloc (Nat.le_refl _) _
      obtain ⟨A3, hA3⟩ : ∃ q, q = k3.heap.size := ⟨_, rfl⟩
      rw [← hA3] at hz ⊢
      generalize k3.alloc (.cells #[.string zEn.id, .int .u32 zEn.idx, .int .i64 zEn.val, .string zEn.script, .int .i64 zEn.ht] 41) = t3 at *
      have HA3b := Lib.hid (show m < A3 by rw [hA3]; obtain ⟨n, D, ho, -⟩ := HRM.out.owns; exact ho.lt)
      have HBW := Lib.hid (HBW.out.trans (hal.mono HBW.out.size))
      have HRM := Lib.hid (HRM.out.below hal)
      have HLO := Lib.hid (HLO.out.below hal)
      have HA3 := Lib.hid hz
      have HA1 := Lib.hid (stay HA1.out hal)
      clear hz hal hA3
      go_wp2_with fail
      go_ret
      exact ⟨rfl, HBW.out⟩
    | some y =>
      have HE3 := Lib.hid (leaseE_some (key := 3) (by decide) HGM.out hcm)
      have hxy : x.val ≤ y.val := HMORE.out.2 x y HX.out hcm
      clear hcm
      go_wp2_with fail
      refine (lease_new b m (scrT 1) (fun _ => none) 3 (need + more) _ L k5 HRM.out (by decide) rfl (by decide) HLO.out.sl).mono ?_
      rw [HE3.out]
      rintro e k3 ⟨rfl, hg, hrm⟩
      have HBW := Lib.hid (HBW.out.grown hg HBW.out.size (fun q hq => by injection hq with hq; rw [← hq]; exact HBM.out.2))
      have HRM := Lib.hid hrm
      have HLO := Lib.hid (HLO.out.grown hg HML.out)
      have HA1 := Lib.hid ((hg.block A1 (lt_of HA1.out) (by have := HA1b.out; intro e; injection e; omega)).trans HA1.out)
      clear hg hrm
      unfold enC
      go_upto_region 15 with fail
      have hz := heap_alloc_new k3 (.cells #[.string y.id, .int .u32 y.idx, .int .i64 y.val, .string y.script, .int .i64 y.ht] 41)
      have hal : Below k3.heap.size k3 (k3.alloc (.cells #[.string y.id, .int .u32 y.idx, .int .i64 y.val, .string y.script, .int .i64 y.ht] 41)) := (Below.refl _ _).alloc (Nat.le_refl _) _
      obtain ⟨A3, hA3⟩ : ∃ q, q = k3.heap.size := ⟨_, rfl⟩
      rw [← hA3] at hz ⊢
      generalize k3.alloc (.cells #[.string y.id, .int .u32 y.idx, .int .i64 y.val, .string y.script, .int .i64 y.ht] 41) = t3 at *
      have HA3b := Lib.hid (show m < A3 by rw [hA3]; obtain ⟨n, D, ho, -⟩ := HRM.out.owns; exact ho.lt)
      have HBW := Lib.hid (HBW.out.trans (hal.mono HBW.out.size))
      have HRM := Lib.hid (HRM.out.below hal)
      have HLO := Lib.hid (HLO.out.below hal)
      have HA3 := Lib.hid hz
      have HA1 := Lib.hid (stay HA1.out hal)
      clear hz hal hA3
      have d1 : t3.cell? ⟨A1, 2, none⟩ = some (.int .i64 x.val) := cell_at HA1.out
      have d3 : t3.cell? ⟨A3, 2, none⟩ = some (.int .i64 y.val) := cell_at HA3.out
      go_wp2_with fail
      go_ret
      exact ⟨rfl, HBW.out⟩
end Go.Proofs.Ytelindgnkpfkiaa
