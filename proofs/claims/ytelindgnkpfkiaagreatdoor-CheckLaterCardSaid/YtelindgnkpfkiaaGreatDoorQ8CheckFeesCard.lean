/-
  CheckFeesCard, part 8: the texts Gg, Gh, Gi, Gj, one after another. Conditions: none beyond those named at each.
-/
import Derived.Test.YtelindgnkpfkiaaGreatDoorQ5CheckFeesCard
import Derived.Test.YtelindgnkpfkiaaGreatDoorQ6CheckFeesCard
import Derived.Test.YtelindgnkpfkiaaGreatDoorQ7CheckFeesCard
import Derived.Test.YtelindgnkpfkiaaGreatDoorQ4CheckFeesCard
import Derived.Test.YtelindgnkpfkiaaGreatDoorQ1CheckFeesCard
section
/-
  check: told, formed, spent. Conditions: the coins and the transaction lie in memory.
-/
namespace Go.Proofs.YtelindgnkpfkiaaGreatDoor
open Go.RowKit Go.BigFrame
set_option linter.unusedVariables false
set_option linter.unusedSimpArgs false

theorem told_any (n : Int) (w : World) : Calls Tryz.prog 36 #[.int .i64 n] w fun e w' => e = .returned (if n = 0 then .nilIface else .iface 42 (.int .i64 n)) ∧ w = w' := by
  by_cases h : n = 0
  · subst h
    go_enter Tryz.func36, Tryz.ntmps36
    go_wp2
    go_ret
    exact ⟨rfl, rfl⟩
  · have hb : (n == 0) = false := by rw [beq_eq_false_iff_ne]; exact h
    go_enter Tryz.func36, Tryz.ntmps36
    go_wp2
    go_ret
    exact ⟨rfl, rfl⟩
noncomputable def formE (t : PTx) : Int := if checkOf t ≠ 0 then checkOf t else if baseOf t = true then 4 else 0
set_option maxRecDepth 100000 in
set_option maxHeartbeats 4000000 in
theorem kformed_any (b : Nat) (v : Value) (t : PTx) (w : World) (hv : TxAt w v t) (hlen : t.outs.length ≤ 1000) : Calls Tryz.prog 32 #[.iface 29 (.pointer (some ⟨b, 0, none⟩)), v] w fun e w' => e = .returned (.int .i64 (formE t)) ∧ Below w.heap.size w w' := by
  have HTX := Lib.hid hv
  obtain ⟨va, vo, rfl, hia, hoa, -, -⟩ := hv
  obtain ⟨aa, ca, rfl, -, -⟩ := hia.shape
  obtain ⟨ao, co, rfl, -, -⟩ := hoa.shape
  have HCK := Lib.hid (fun y h => check_any (.agg #[.int .u32 t.ver, .slice aa t.ins.length ca, .slice ao t.outs.length co, .int .u32 t.lock]) t y h hlen)
  have HBS := Lib.hid (fun y h => base_tx (.agg #[.int .u32 t.ver, .slice aa t.ins.length ca, .slice ao t.outs.length co, .int .u32 t.lock]) t y h)
  have HF := Lib.hid (show formE t = if checkOf t ≠ 0 then checkOf t else if baseOf t = true then 4 else 0 from rfl)
  generalize formE t = r at *
  generalize t.ins.length = n at *
  generalize t.outs.length = k at *
  clear hia hoa
  go_enter Tryz.func32, Tryz.ntmps32
  go_upto_region 1 with fail
  have hz := heap_alloc_new w (.cells #[.int .u32 t.ver, .slice aa n ca, .slice ao k co, .int .u32 t.lock] 35)
  have hal : Below w.heap.size w (w.alloc (.cells #[.int .u32 t.ver, .slice aa n ca, .slice ao k co, .int .u32 t.lock] 35)) := (Below.refl _ _).alloc (Nat.le_refl _) _
  obtain ⟨X, hX⟩ : ∃ q, q = w.heap.size := ⟨_, rfl⟩
  rw [← hX] at hz ⊢
  generalize w.alloc (.cells #[.int .u32 t.ver, .slice aa n ca, .slice ao k co, .int .u32 t.lock] 35) = w0 at *
  have HB0 := Lib.hid hal
  have HZ0 := Lib.hid hz
  have HTX0 := Lib.hid (HTX.out.below hal)
  have t0 : w0.cell? ⟨X, 0, none⟩ = some (.int .u32 t.ver) := cell_at hz
  have t1 : w0.cell? ⟨X, 1, none⟩ = some (.slice aa n ca) := cell_at hz
  have t2 : w0.cell? ⟨X, 2, none⟩ = some (.slice ao k co) := cell_at hz
  have t3 : w0.cell? ⟨X, 3, none⟩ = some (.int .u32 t.lock) := cell_at hz
  have HK := Lib.hid (HCK.out w0 HTX0.out)
  clear hz hal hX
  go_wp2_with fail
  refine HK.out.mono ?_
  rintro e w1 ⟨rfl, hb⟩
  have HB1 := Lib.hid (HB0.out.trans (hb.mono HB0.out.size))
  have HB := Lib.hid (HBS.out w1 (HTX0.out.below hb))
  replace t0 := below_cells hb _ _ t0
  replace t1 := below_cells hb _ _ t1
  replace t2 := below_cells hb _ _ t2
  replace t3 := below_cells hb _ _ t3
  clear hb HK
  generalize checkOf t = ck at *
  by_cases hc : ck = 0
  · subst hc
    have HF := Lib.hid (HF.out.trans (if_neg (by simp)))
    generalize baseOf t = bs at *
    go_wp2_with fail
    refine HB.out.mono ?_
    rintro e w2 ⟨rfl, hb⟩
    have HB2 := Lib.hid (HB1.out.trans (hb.mono HB1.out.size))
    clear hb HB
    cases bs
    · have HR := Lib.hid (show r = 0 by have := HF.out; simpa using this)
      go_wp2_with fail
      go_ret
      exact ⟨by rw [HR.out]; rfl, HB2.out⟩
    · have HR := Lib.hid (show r = 4 by have := HF.out; simpa using this)
      go_wp2_with fail
      go_ret
      exact ⟨by rw [HR.out]; rfl, HB2.out⟩
  · have HF := Lib.hid (HF.out.trans (if_pos hc))
    have hne : (ck != 0) = true := by rw [bne_iff_ne]; exact hc
    clear hc
    go_wp2_with fail
    go_ret
    exact ⟨by rw [HF.out]; rfl, HB1.out⟩
set_option maxRecDepth 100000 in
set_option maxHeartbeats 4000000 in
theorem kformed_nil (v : Value) (t : PTx) (w : World) (hv : TxAt w v t) : Calls Tryz.prog 32 #[.nilIface, v] w fun e w' => e = .returned (.int .i64 1) ∧ Below w.heap.size w w' := by
  obtain ⟨va, vo, rfl, hia, hoa, -, -⟩ := hv
  obtain ⟨aa, ca, rfl, -, -⟩ := hia.shape
  obtain ⟨ao, co, rfl, -, -⟩ := hoa.shape
  generalize t.ins.length = n at *
  generalize t.outs.length = k at *
  clear hia hoa
  go_enter Tryz.func32, Tryz.ntmps32
  go_wp2_with fail
  go_ret
  exact ⟨rfl, (Below.refl _ _).alloc (Nat.le_refl _) _⟩
theorem msGet (v : Value) (w : World) : (Go.method 326 29 v "Get").run Tryz.prog w = .ok (15, v) w := by kernel_rfl
theorem naGet (a : Addr) (w : World) : (nilAhead 326 29 (.pointer (some a)) "Get").run Tryz.prog w = .ok (some false) w := by kernel_rfl
def RG1 (X b bi oi n ca i : Nat) (x : PIn) (r : PCn × Bool) : Prop → Nat → SFact
  | _, 0 => .val fun _ => .iface 29 (.pointer (some ⟨b, 0, none⟩))
  | _, 1 => .val fun _ => .pointer (some ⟨X, 1, none⟩)
  | _, 2 => .val fun _ => .slice (some ⟨bi, oi, none⟩) n ca
  | _, 3 => .val fun _ => .int .i64 i
  | _, 4 => .val fun _ => .pointer (some ⟨bi, oi + i * 4, none⟩)
  | _, 5 => .val fun _ => .pointer (some ⟨bi, oi + i * 4, none⟩)
  | _, 6 => .val fun _ => .agg #[.string x.id, .int .u32 x.idx]
  | _, 7 => .val fun _ => .func (.method "Get") #[.iface 29 (.pointer (some ⟨b, 0, none⟩))] #[]
  | _, 8 => .val fun _ => .func (.method "Get") #[.iface 29 (.pointer (some ⟨b, 0, none⟩))] #[]
  | _, 9 => .val fun _ => .iface 29 (.pointer (some ⟨b, 0, none⟩))
  | _, 10 => .val fun _ => .tuple #[.agg #[.int .i64 r.1.val, .string r.1.script, .int .i64 r.1.height], .bool r.2]
  | _, 11 => .val fun _ => .tuple #[.agg #[.int .i64 r.1.val, .string r.1.script, .int .i64 r.1.height], .bool r.2]
  | _, 12 => .val fun _ => .agg #[.int .i64 r.1.val, .string r.1.script, .int .i64 r.1.height]
  | _, 13 => .val fun _ => .bool r.2
  | p, 14 => .made p (.cells #[.int .i64 0, .string ⟨#[]⟩, .int .i64 0] 50 (0, 0))
  | _, 15 => .stored 50
  | _, _ => .any
/-- The coin of an input, and why it may not spend it. -/
def spentR (r : PCn × Bool) (t : PTx) (i : Nat) (h : Int) : PCn × Int :=
  if r.2 = false then (r.1, 8) else if openOf r.1.script t i ≠ 0 then (r.1, openOf r.1.script t i)
  else if ripeOf t i r.1.height h = false then (r.1, 10) else (r.1, 0)
set_option maxRecDepth 100000 in
set_option maxHeartbeats 4000000 in
theorem kspent_any {B : Nat} {w : World} {b m : Nat} {lc : CL} {c : Nat} {tot : Int} (hc : CsAt B w b m lc c tot) (v : Value) (t : PTx) (iv : Nat) (x : PIn) (ht : Int) (hh : ht ≤ 9223372036854775807) (hv : TxAt w v t) (hx : t.ins[iv]? = some x) (hsz : (getP noCn (x.id, x.idx) lc).1.script.size ≤ 9223372036854775807) :
    Calls Tryz.prog 33 #[.iface 29 (.pointer (some ⟨b, 0, none⟩)), v, .int .i64 iv, .int .i64 ht] w fun e w' => e = .returned (.tuple #[cnV (spentR (getP noCn (x.id, x.idx) lc) t iv ht).1, .int .i64 (spentR (getP noCn (x.id, x.idx) lc) t iv ht).2]) ∧ Below w.heap.size w w' := by
  have HTX := Lib.hid hv
  have HC := Lib.hid hc
  obtain ⟨va, vo, rfl, hia, hoa, -, -⟩ := hv
  obtain ⟨aa, ca, rfl, -, -⟩ := hia.shape
  obtain ⟨ao, co, rfl, -, -⟩ := hoa.shape
  have hil : iv < t.ins.length := (List.getElem?_eq_some_iff.1 hx).1
  have HIA := Lib.hid hia
  obtain ⟨r, hr⟩ : ∃ r, r = getP noCn (x.id, x.idx) lc := ⟨_, rfl⟩
  obtain ⟨z, hz⟩ : ∃ z, z = spentR (getP noCn (x.id, x.idx) lc) t iv ht := ⟨_, rfl⟩
  rw [← hz]
  unfold spentR at hz
  rw [← hr] at hz hsz
  have HR := Lib.hid hr
  have HZ := Lib.hid hz
  have HX := Lib.hid hx
  generalize hn : t.ins.length = n at *
  generalize t.outs.length = k at *
  clear hia hoa hz hr hx hn hc
  go_enter Tryz.func33, Tryz.ntmps33
  go_upto_region 1 with fail
  obtain ⟨X, hX⟩ : ∃ q, q = w.heap.size := ⟨_, rfl⟩
  have hnews := new2 w X hX (.cells #[.int .u32 t.ver, .slice aa n ca, .slice ao k co, .int .u32 t.lock] 35) (.cells #[.int .i64 0, .string ⟨#[]⟩, .int .i64 0] 50)
  rw [← hX]
  generalize ((w.alloc (.cells #[.int .u32 t.ver, .slice aa n ca, .slice ao k co, .int .u32 t.lock] 35)).alloc (.cells #[.int .i64 0, .string ⟨#[]⟩, .int .i64 0] 50)) = w0 at *
  obtain ⟨hz0, hz1, hal⟩ := hnews
  have HB0 := Lib.hid hal
  have HZ0 := Lib.hid hz0
  have HZ1 := Lib.hid hz1
  have hXw : w.heap.size ≤ X ∧ w.heap.size ≤ X + 1 := by omega
  have HC := Lib.hid (HC.out.below hal)
  have HTX := Lib.hid (HTX.out.below hal)
  obtain ⟨bi, oi, y, wv, rfl, hy, -, -, -, -, y0, y1, -, -⟩ := (HIA.out.below hal).inp hil
  rw [HX.out] at hy
  obtain rfl := Option.some.inj hy
  have t1 : w0.cell? ⟨X, 1, none⟩ = some (.slice (some ⟨bi, oi, none⟩) n ca) := cell_at hz0
  have HG := Lib.hid (fun y (h : Below w0.heap.size w0 y) => cget_any (HC.out.below h) (x.id, x.idx))
  rw [← HR.out] at HG
  unfold ptV cnV at HG
  have HIN := Lib.hid (show (0 : Int) ≤ (iv : Int) by omega)
  have HIN2 := Lib.hid (show (iv : Int) < (n : Int) by omega)
  clear hz0 hz1 hal hX hy
  go_upto_region 1 with fail
  refine wp_region_stored (RG1 X b bi oi n ca iv x r) 16 15 14 (by kernel_rfl) (by kernel_rfl) (by kernel_rfl) (by kernel_rfl) (by decide) (by kernel_rfl) (by decide) (by intro j hj v d lo hi w h; match j, hj, h with | 0, hj, h => exact h | 1, hj, h => exact h | 2, hj, h => exact h | 3, hj, h => exact h | 4, hj, h => exact h | 5, hj, h => exact h | 6, hj, h => exact h | 7, hj, h => exact h | 8, hj, h => exact h | 9, hj, h => exact h | 10, hj, h => exact h | 11, hj, h => exact h | 12, hj, h => exact h | 13, hj, h => exact h | 14, hj, h => exact absurd rfl hj | 15, hj, h => exact h | q + 16, hj, h => exact h) ?_ ?_
  · intro i o hi ho L xs lo hi' wr hmd hni hpre
    obtain ⟨x0, x1, x2, x3, x4, x5, x6, x7, x8, x9, x10, x11, x12, x13, x14, x15, rfl⟩ : ∃ x0 x1 x2 x3 x4 x5 x6 x7 x8 x9 x10 x11 x12 x13 x14 x15, xs = [x0, x1, x2, x3, x4, x5, x6, x7, x8, x9, x10, x11, x12, x13, x14, x15] := by match xs, hmd.len with | [x0, x1, x2, x3, x4, x5, x6, x7, x8, x9, x10, x11, x12, x13, x14, x15], _ => exact ⟨_, _, _, _, _, _, _, _, _, _, _, _, _, _, _, _, rfl⟩
    match i, ho with
    | 0, ho =>
      obtain rfl := Option.some.inj ho
      have kk := fun lx ox ax => sstep_pure (P := Tryz.prog) (R := RG1 X b bi oi n ca iv x r) (s := 15) (l := lx) (w0 := w0) (L := L) (xs := [x0, x1, x2, x3, x4, x5, x6, x7, x8, x9, x10, x11, x12, x13, x14, x15]) (lo := lo) (hi := hi') (o := ox) (a := ax) (w := wr) (i := 0) (k := 14) (by decide) (.iface 29 (.pointer (some ⟨b, 0, none⟩)))
      refine kk _ _ _ ?_ ?_
      · kernel_rfl
      · exact rfl
    | 1, ho =>
      obtain rfl := Option.some.inj ho
      have kk := fun lx ox ax => sstep_pure (P := Tryz.prog) (R := RG1 X b bi oi n ca iv x r) (s := 15) (l := lx) (w0 := w0) (L := L) (xs := [x0, x1, x2, x3, x4, x5, x6, x7, x8, x9, x10, x11, x12, x13, x14, x15]) (lo := lo) (hi := hi') (o := ox) (a := ax) (w := wr) (i := 1) (k := 14) (by decide) (.pointer (some ⟨X, 1, none⟩))
      refine kk _ _ _ ?_ ?_
      · kernel_rfl
      · exact rfl
    | 2, ho =>
      obtain rfl := Option.some.inj ho
      have h_1 : x1 = .pointer (some ⟨X, 1, none⟩) := hmd.rel 1 (hpre 1 (by kernel_rfl))
      subst h_1
      have t0 := below_cells hmd.bel _ _ t1
      have kk := fun lx ox ax => sstep_pure (P := Tryz.prog) (R := RG1 X b bi oi n ca iv x r) (s := 15) (l := lx) (w0 := w0) (L := L) (xs := [x0, (.pointer (some ⟨X, 1, none⟩)), x2, x3, x4, x5, x6, x7, x8, x9, x10, x11, x12, x13, x14, x15]) (lo := lo) (hi := hi') (o := ox) (a := ax) (w := wr) (i := 2) (k := 14) (by decide) (.slice (some ⟨bi, oi, none⟩) n ca)
      refine kk _ _ _ ?_ ?_
      · simp [putAll, execOp, go_sem, t0]
      · exact rfl
    | 3, ho =>
      obtain rfl := Option.some.inj ho
      have kk := fun lx ox ax => sstep_pure (P := Tryz.prog) (R := RG1 X b bi oi n ca iv x r) (s := 15) (l := lx) (w0 := w0) (L := L) (xs := [x0, x1, x2, x3, x4, x5, x6, x7, x8, x9, x10, x11, x12, x13, x14, x15]) (lo := lo) (hi := hi') (o := ox) (a := ax) (w := wr) (i := 3) (k := 14) (by decide) (.int .i64 iv)
      refine kk _ _ _ ?_ ?_
      · kernel_rfl
      · exact rfl
    | 4, ho =>
      obtain rfl := Option.some.inj ho
      have h_2 : x2 = .slice (some ⟨bi, oi, none⟩) n ca := hmd.rel 2 (hpre 2 (by kernel_rfl))
      subst h_2
      have h_3 : x3 = .int .i64 iv := hmd.rel 3 (hpre 3 (by kernel_rfl))
      subst h_3
      have kk := fun lx ox ax => sstep_pure (P := Tryz.prog) (R := RG1 X b bi oi n ca iv x r) (s := 15) (l := lx) (w0 := w0) (L := L) (xs := [x0, x1, (.slice (some ⟨bi, oi, none⟩) n ca), (.int .i64 iv), x4, x5, x6, x7, x8, x9, x10, x11, x12, x13, x14, x15]) (lo := lo) (hi := hi') (o := ox) (a := ax) (w := wr) (i := 4) (k := 14) (by decide) (.pointer (some ⟨bi, oi + iv * 4, none⟩))
      refine kk _ _ _ ?_ ?_
      · simp [putAll, execOp, go_sem, HIN.out, HIN2.out]
      · exact rfl
    | 5, ho =>
      obtain rfl := Option.some.inj ho
      have h_4 : x4 = .pointer (some ⟨bi, oi + iv * 4, none⟩) := hmd.rel 4 (hpre 4 (by kernel_rfl))
      subst h_4
      have kk := fun lx ox ax => sstep_pure (P := Tryz.prog) (R := RG1 X b bi oi n ca iv x r) (s := 15) (l := lx) (w0 := w0) (L := L) (xs := [x0, x1, x2, x3, (.pointer (some ⟨bi, oi + iv * 4, none⟩)), x5, x6, x7, x8, x9, x10, x11, x12, x13, x14, x15]) (lo := lo) (hi := hi') (o := ox) (a := ax) (w := wr) (i := 5) (k := 14) (by decide) (.pointer (some ⟨bi, oi + iv * 4, none⟩))
      refine kk _ _ _ ?_ ?_
      · kernel_rfl
      · exact rfl
    | 6, ho =>
      obtain rfl := Option.some.inj ho
      have h_5 : x5 = .pointer (some ⟨bi, oi + iv * 4, none⟩) := hmd.rel 5 (hpre 5 (by kernel_rfl))
      subst h_5
      have u0 := below_cells hmd.bel _ _ y0
      have u1 := below_cells hmd.bel _ _ y1
      have kk := fun lx ox ax => sstep_pure (P := Tryz.prog) (R := RG1 X b bi oi n ca iv x r) (s := 15) (l := lx) (w0 := w0) (L := L) (xs := [x0, x1, x2, x3, x4, (.pointer (some ⟨bi, oi + iv * 4, none⟩)), x6, x7, x8, x9, x10, x11, x12, x13, x14, x15]) (lo := lo) (hi := hi') (o := ox) (a := ax) (w := wr) (i := 6) (k := 14) (by decide) (.agg #[.string x.id, .int .u32 x.idx])
      refine kk _ _ _ ?_ ?_
      · simp [putAll, execOp, go_sem, u0, u1]
      · exact rfl
    | 7, ho =>
      obtain rfl := Option.some.inj ho
      have h_0 : x0 = .iface 29 (.pointer (some ⟨b, 0, none⟩)) := hmd.rel 0 (hpre 0 (by kernel_rfl))
      subst h_0
      have kk := fun lx ox ax => sstep_pure (P := Tryz.prog) (R := RG1 X b bi oi n ca iv x r) (s := 15) (l := lx) (w0 := w0) (L := L) (xs := [(.iface 29 (.pointer (some ⟨b, 0, none⟩))), x1, x2, x3, x4, x5, x6, x7, x8, x9, x10, x11, x12, x13, x14, x15]) (lo := lo) (hi := hi') (o := ox) (a := ax) (w := wr) (i := 7) (k := 14) (by decide) (.func (.method "Get") #[.iface 29 (.pointer (some ⟨b, 0, none⟩))] #[])
      refine kk _ _ _ ?_ ?_
      · kernel_rfl
      · exact rfl
    | 8, ho =>
      obtain rfl := Option.some.inj ho
      have h_7 : x7 = .func (.method "Get") #[.iface 29 (.pointer (some ⟨b, 0, none⟩))] #[] := hmd.rel 7 (hpre 7 (by kernel_rfl))
      subst h_7
      have kk := fun lx ox ax => sstep_pure (P := Tryz.prog) (R := RG1 X b bi oi n ca iv x r) (s := 15) (l := lx) (w0 := w0) (L := L) (xs := [x0, x1, x2, x3, x4, x5, x6, (.func (.method "Get") #[.iface 29 (.pointer (some ⟨b, 0, none⟩))] #[]), x8, x9, x10, x11, x12, x13, x14, x15]) (lo := lo) (hi := hi') (o := ox) (a := ax) (w := wr) (i := 8) (k := 14) (by decide) (.func (.method "Get") #[.iface 29 (.pointer (some ⟨b, 0, none⟩))] #[])
      refine kk _ _ _ ?_ ?_
      · kernel_rfl
      · exact rfl
    | 9, ho =>
      obtain rfl := Option.some.inj ho
      have h_0 : x0 = .iface 29 (.pointer (some ⟨b, 0, none⟩)) := hmd.rel 0 (hpre 0 (by kernel_rfl))
      subst h_0
      have kk := fun lx ox ax => sstep_pure (P := Tryz.prog) (R := RG1 X b bi oi n ca iv x r) (s := 15) (l := lx) (w0 := w0) (L := L) (xs := [(.iface 29 (.pointer (some ⟨b, 0, none⟩))), x1, x2, x3, x4, x5, x6, x7, x8, x9, x10, x11, x12, x13, x14, x15]) (lo := lo) (hi := hi') (o := ox) (a := ax) (w := wr) (i := 9) (k := 14) (by decide) (.iface 29 (.pointer (some ⟨b, 0, none⟩)))
      refine kk _ _ _ ?_ ?_
      · kernel_rfl
      · exact rfl
    | 10, ho =>
      obtain rfl := Option.some.inj ho
      have h_6 : x6 = .agg #[.string x.id, .int .u32 x.idx] := hmd.rel 6 (hpre 6 (by kernel_rfl))
      subst h_6
      have h_9 : x9 = .iface 29 (.pointer (some ⟨b, 0, none⟩)) := hmd.rel 9 (hpre 9 (by kernel_rfl))
      subst h_9
      have kk := fun lx ox ax => sstep_call (P := Tryz.prog) (R := RG1 X b bi oi n ca iv x r) (s := 15) (l := lx) (w0 := w0) (L := L) (xs := [x0, x1, x2, x3, x4, x5, (.agg #[.string x.id, .int .u32 x.idx]), x7, x8, (.iface 29 (.pointer (some ⟨b, 0, none⟩))), x10, x11, x12, x13, x14, x15]) (lo := lo) (hi := hi') (o := ox) (a := ax) (w := wr) (i := 10) (k := 14) (by decide) (HG.out wr hmd.bel)
      refine kk _ _ _ ?_ ?_
      · kernel_rfl
      · exact fun e w' ⟨he, hb⟩ => ⟨_, he, hb, rfl⟩
    | 11, ho =>
      obtain rfl := Option.some.inj ho
      have h_10 : x10 = .tuple #[.agg #[.int .i64 r.1.val, .string r.1.script, .int .i64 r.1.height], .bool r.2] := hmd.rel 10 (hpre 10 (by kernel_rfl))
      subst h_10
      have kk := fun lx ox ax => sstep_pure (P := Tryz.prog) (R := RG1 X b bi oi n ca iv x r) (s := 15) (l := lx) (w0 := w0) (L := L) (xs := [x0, x1, x2, x3, x4, x5, x6, x7, x8, x9, (.tuple #[.agg #[.int .i64 r.1.val, .string r.1.script, .int .i64 r.1.height], .bool r.2]), x11, x12, x13, x14, x15]) (lo := lo) (hi := hi') (o := ox) (a := ax) (w := wr) (i := 11) (k := 14) (by decide) (.tuple #[.agg #[.int .i64 r.1.val, .string r.1.script, .int .i64 r.1.height], .bool r.2])
      refine kk _ _ _ ?_ ?_
      · kernel_rfl
      · exact rfl
    | 12, ho =>
      obtain rfl := Option.some.inj ho
      have h_11 : x11 = .tuple #[.agg #[.int .i64 r.1.val, .string r.1.script, .int .i64 r.1.height], .bool r.2] := hmd.rel 11 (hpre 11 (by kernel_rfl))
      subst h_11
      have kk := fun lx ox ax => sstep_pure (P := Tryz.prog) (R := RG1 X b bi oi n ca iv x r) (s := 15) (l := lx) (w0 := w0) (L := L) (xs := [x0, x1, x2, x3, x4, x5, x6, x7, x8, x9, x10, (.tuple #[.agg #[.int .i64 r.1.val, .string r.1.script, .int .i64 r.1.height], .bool r.2]), x12, x13, x14, x15]) (lo := lo) (hi := hi') (o := ox) (a := ax) (w := wr) (i := 12) (k := 14) (by decide) (.agg #[.int .i64 r.1.val, .string r.1.script, .int .i64 r.1.height])
      refine kk _ _ _ ?_ ?_
      · kernel_rfl
      · exact rfl
    | 13, ho =>
      obtain rfl := Option.some.inj ho
      have h_11 : x11 = .tuple #[.agg #[.int .i64 r.1.val, .string r.1.script, .int .i64 r.1.height], .bool r.2] := hmd.rel 11 (hpre 11 (by kernel_rfl))
      subst h_11
      have kk := fun lx ox ax => sstep_pure (P := Tryz.prog) (R := RG1 X b bi oi n ca iv x r) (s := 15) (l := lx) (w0 := w0) (L := L) (xs := [x0, x1, x2, x3, x4, x5, x6, x7, x8, x9, x10, (.tuple #[.agg #[.int .i64 r.1.val, .string r.1.script, .int .i64 r.1.height], .bool r.2]), x12, x13, x14, x15]) (lo := lo) (hi := hi') (o := ox) (a := ax) (w := wr) (i := 13) (k := 14) (by decide) (.bool r.2)
      refine kk _ _ _ ?_ ?_
      · kernel_rfl
      · exact rfl
    | 14, ho =>
      obtain rfl := Option.some.inj ho
      have kk := fun lx ox ax => sstep_new (P := Tryz.prog) (R := RG1 X b bi oi n ca iv x r) (s := 15) (l := lx) (w0 := w0) (L := L) (xs := [x0, x1, x2, x3, x4, x5, x6, x7, x8, x9, x10, x11, x12, x13, x14, x15]) (lo := lo) (hi := hi') (o := ox) (a := ax) (w := wr) (i := 14) (k := 14) (by decide) (.pointer (some ⟨wr.heap.size, 0, none⟩)) (.cells #[.int .i64 0, .string ⟨#[]⟩, .int .i64 0] 50)
      refine kk _ _ _ ?_ ?_
      · kernel_rfl
      · exact ⟨_, Nat.le_refl _, rfl, fun _ => ⟨by simp, heap_alloc_new wr _⟩⟩
    | 15, ho =>
      obtain rfl := Option.some.inj ho
      have r_k : ∃ bq, lo 14 ≤ bq ∧ x14 = .pointer (some ⟨bq, 0, none⟩) ∧ (¬ L 15 → bq < hi' 14 ∧ wr.heap[bq]? = some (.cells #[.int .i64 0, .string ⟨#[]⟩, .int .i64 0] (50) (0, 0))) := hmd.rel 14 (hpre 14 (by kernel_rfl))
      cases r_k with
      | intro bk h16 =>
      cases h16 with
      | intro _ h16 =>
      cases h16 with
      | intro h16 _ =>
      cases h16
      have h_12 : x12 = .agg #[.int .i64 r.1.val, .string r.1.script, .int .i64 r.1.height] := hmd.rel 12 (hpre 12 (by kernel_rfl))
      subst h_12
      have kk := fun lx ox ax => sstep_row (P := Tryz.prog) (R := RG1 X b bi oi n ca iv x r) (s := 15) (l := lx) (n := 16) (w0 := w0) (L := L) (xs := [x0, x1, x2, x3, x4, x5, x6, x7, x8, x9, x10, x11, (.agg #[.int .i64 r.1.val, .string r.1.script, .int .i64 r.1.height]), x13, (.pointer (some ⟨bk, 0, none⟩)), x15]) (lo := lo) (hi := hi') (o := ox) (a := ax) (w := wr) (k := 14) (50) (.tmp 10) (.tmp 25) (50) #[.int .i64 0, .string ⟨#[]⟩, .int .i64 0] #[.int .i64 r.1.val, .string r.1.script, .int .i64 r.1.height] bk
      refine kk _ _ _ ?_ ?_ ?_ ?_ ?_ ?_ ?_ ?_ ?_ ?_ ?_ ?_ ?_ ?_ ?_
      · exact rfl
      · exact rfl
      · exact rfl
      · exact hmd
      · exact hni
      · exact hpre 14 (by kernel_rfl)
      · rfl
      · rfl
      · kernel_rfl
      · kernel_rfl
      · kernel_rfl
      · rfl
      · kernel_rfl
      · kernel_rfl
      · kernel_rfl
    | q + 16, ho => omega
  · intro xs lo hi wr hmd
    obtain ⟨x0, x1, x2, x3, x4, x5, x6, x7, x8, x9, x10, x11, x12, x13, x14, x15, rfl⟩ : ∃ x0 x1 x2 x3 x4 x5 x6 x7 x8 x9 x10 x11 x12 x13 x14 x15, xs = [x0, x1, x2, x3, x4, x5, x6, x7, x8, x9, x10, x11, x12, x13, x14, x15] := by match xs, hmd.len with | [x0, x1, x2, x3, x4, x5, x6, x7, x8, x9, x10, x11, x12, x13, x14, x15], _ => exact ⟨_, _, _, _, _, _, _, _, _, _, _, _, _, _, _, _, rfl⟩
    simp only [putAll]
    change wpList _ _ _ (_ :: []) _ _
    have h13 : x13 = .bool r.2 := hmd.rel 13 (by decide)
    have h12 : x12 = .agg #[.int .i64 r.1.val, .string r.1.script, .int .i64 r.1.height] := hmd.rel 12 (by decide)
    have r15 := hmd.st (show 15 < 16 by decide) (x := x14) (y := x12) (t := 50) rfl (by kernel_rfl) (by kernel_rfl)
    have hb2 := hmd.bel
    have hlo := hmd.lohi 15 (by decide)
    clear hmd
    obtain ⟨V, cs, hV1, hV2, h14, h12', hz2⟩ := r15
    subst h14 h13 h12
    obtain rfl : cs = #[.int .i64 r.1.val, .string r.1.script, .int .i64 r.1.height] := by injection h12' with e; exact e.symm
    have hV0 : w0.heap.size ≤ V := by omega
    have HB1 := Lib.hid (HB0.out.trans (hb2.mono HB0.out.size))
    have HTX1 := Lib.hid (HTX.out.below hb2)
    have HZ0 := Lib.hid (stay HZ0.out hb2)
    have HZ1 := Lib.hid (stay HZ1.out hb2)
    have HZ2 := Lib.hid hz2
    clear hz2 hb2 hlo hV1 hV2 h12' t1 y0 y1 HG hV0
    by_cases hfd : r.2 = false
    · have HZE := Lib.hid (show z = (r.1, 8) by rw [HZ.out, if_pos hfd])
      rw [hfd]
      clear hfd
      have y0 : wr.cell? ⟨X + 1, 0, none⟩ = some (.int .i64 0) := cell_at HZ1.out
      have y1 : wr.cell? ⟨X + 1, 1, none⟩ = some (.string ⟨#[]⟩) := cell_at HZ1.out
      have y2 : wr.cell? ⟨X + 1, 2, none⟩ = some (.int .i64 0) := cell_at HZ1.out
      have g0 : wr.frozen? ⟨X + 1, 0, none⟩ = false := free_at HZ1.out
      have g1 : wr.frozen? ⟨X + 1, 1, none⟩ = false := free_at HZ1.out
      have g2 : wr.frozen? ⟨X + 1, 2, none⟩ = false := free_at HZ1.out
      have v0 : wr.cell? ⟨V, 0, none⟩ = some (.int .i64 r.1.val) := cell_at HZ2.out
      have v1 : wr.cell? ⟨V, 1, none⟩ = some (.string r.1.script) := cell_at HZ2.out
      have v2 : wr.cell? ⟨V, 2, none⟩ = some (.int .i64 r.1.height) := cell_at HZ2.out
      go_wp2_with fail
      have q0 := heap_setCell_at (j := 0) (u := .int .i64 r.1.val) HZ1.out
      have q1 := heap_setCell_at (j := 1) (u := .string r.1.script) q0
      have q2 := heap_setCell_at (j := 2) (u := .int .i64 r.1.height) q1
      have hb3 := ((HB1.out.setCell (p := ⟨X + 1, 0, none⟩) hXw.2 (.int .i64 r.1.val)).setCell (p := ⟨X + 1, 1, none⟩) hXw.2 (.string r.1.script)).setCell (p := ⟨X + 1, 2, none⟩) hXw.2 (.int .i64 r.1.height)
      generalize ((wr.setCell ⟨X + 1, 0, none⟩ (.int .i64 r.1.val)).setCell ⟨X + 1, 1, none⟩ (.string r.1.script)).setCell ⟨X + 1, 2, none⟩ (.int .i64 r.1.height) = wz at *
      have x0 : wz.cell? ⟨X + 1, 0, none⟩ = some (.int .i64 r.1.val) := cell_at q2
      have x1 : wz.cell? ⟨X + 1, 1, none⟩ = some (.string r.1.script) := cell_at q2
      have x2 : wz.cell? ⟨X + 1, 2, none⟩ = some (.int .i64 r.1.height) := cell_at q2
      have hzz : z = (r.1, 8) := HZE.out
      rw [hzz]
      exact bodyPost_ret (v := .tuple #[cnV r.1, .int .i64 (8)]) (by simp [results, Tryz.results33, go_sem, x0, x1, x2, cnV]) rfl ⟨rfl, hb3⟩
    · have hft : r.2 = true := by simpa using hfd
      have HZE := Lib.hid (HZ.out.trans (if_neg hfd))
      rw [hft]
      have HOP := Lib.hid (open_any r.1.script hsz _ t iv wr HTX1.out)
      unfold OpenIs at HOP
      clear hfd hft
      have t0 : wr.cell? ⟨X, 0, none⟩ = some (.int .u32 t.ver) := cell_at HZ0.out
      have t1 : wr.cell? ⟨X, 1, none⟩ = some (.slice (some ⟨bi, oi, none⟩) n ca) := cell_at HZ0.out
      have t2 : wr.cell? ⟨X, 2, none⟩ = some (.slice ao k co) := cell_at HZ0.out
      have t3 : wr.cell? ⟨X, 3, none⟩ = some (.int .u32 t.lock) := cell_at HZ0.out
      have v1 : wr.cell? ⟨V, 1, none⟩ = some (.string r.1.script) := cell_at HZ2.out
      go_wp2_with fail
      refine HOP.out.mono ?_
      rintro e w3 ⟨rfl, hb⟩
      have HB3 := Lib.hid (HB1.out.trans (hb.mono HB1.out.size))
      have HTX3 := Lib.hid (HTX1.out.below hb)
      have HZ0 := Lib.hid (stay HZ0.out hb)
      have HZ1 := Lib.hid (stay HZ1.out hb)
      have HZ2 := Lib.hid (stay HZ2.out hb)
      clear hb HOP t0 t1 t2 t3 v1
      obtain ⟨oc, hoc⟩ : ∃ q, q = openOf r.1.script t iv := ⟨_, rfl⟩
      rw [← hoc] at HZE ⊢
      clear hoc
      by_cases ho : oc = 0
      · subst ho
        have HZE := Lib.hid (HZE.out.trans (if_neg (by simp)))
        have HRI := Lib.hid (ripe_any _ t iv r.1.height ht w3 HTX3.out hh)
        unfold RipeIs at HRI
        have t0 : w3.cell? ⟨X, 0, none⟩ = some (.int .u32 t.ver) := cell_at HZ0.out
        have t1 : w3.cell? ⟨X, 1, none⟩ = some (.slice (some ⟨bi, oi, none⟩) n ca) := cell_at HZ0.out
        have t2 : w3.cell? ⟨X, 2, none⟩ = some (.slice ao k co) := cell_at HZ0.out
        have t3 : w3.cell? ⟨X, 3, none⟩ = some (.int .u32 t.lock) := cell_at HZ0.out
        have v2 : w3.cell? ⟨V, 2, none⟩ = some (.int .i64 r.1.height) := cell_at HZ2.out
        go_wp2_with fail
        refine HRI.out.mono ?_
        rintro e w4 ⟨rfl, hb⟩
        have HB4 := Lib.hid (HB3.out.trans (hb.mono HB3.out.size))
        have HZ1 := Lib.hid (stay HZ1.out hb)
        have HZ2 := Lib.hid (stay HZ2.out hb)
        clear hb HRI t0 t1 t2 t3 v2
        obtain ⟨rp, hrp⟩ : ∃ q, q = ripeOf t iv r.1.height ht := ⟨_, rfl⟩
        rw [← hrp] at HZE ⊢
        clear hrp
        cases rp
        · have HZE := Lib.hid (HZE.out.trans (if_pos rfl))
          have y0 : w4.cell? ⟨X + 1, 0, none⟩ = some (.int .i64 0) := cell_at HZ1.out
          have y1 : w4.cell? ⟨X + 1, 1, none⟩ = some (.string ⟨#[]⟩) := cell_at HZ1.out
          have y2 : w4.cell? ⟨X + 1, 2, none⟩ = some (.int .i64 0) := cell_at HZ1.out
          have g0 : w4.frozen? ⟨X + 1, 0, none⟩ = false := free_at HZ1.out
          have g1 : w4.frozen? ⟨X + 1, 1, none⟩ = false := free_at HZ1.out
          have g2 : w4.frozen? ⟨X + 1, 2, none⟩ = false := free_at HZ1.out
          have v0 : w4.cell? ⟨V, 0, none⟩ = some (.int .i64 r.1.val) := cell_at HZ2.out
          have v1 : w4.cell? ⟨V, 1, none⟩ = some (.string r.1.script) := cell_at HZ2.out
          have v2 : w4.cell? ⟨V, 2, none⟩ = some (.int .i64 r.1.height) := cell_at HZ2.out
          go_wp2_with fail
          have q0 := heap_setCell_at (j := 0) (u := .int .i64 r.1.val) HZ1.out
          have q1 := heap_setCell_at (j := 1) (u := .string r.1.script) q0
          have q2 := heap_setCell_at (j := 2) (u := .int .i64 r.1.height) q1
          have hb3 := ((HB4.out.setCell (p := ⟨X + 1, 0, none⟩) hXw.2 (.int .i64 r.1.val)).setCell (p := ⟨X + 1, 1, none⟩) hXw.2 (.string r.1.script)).setCell (p := ⟨X + 1, 2, none⟩) hXw.2 (.int .i64 r.1.height)
          generalize ((w4.setCell ⟨X + 1, 0, none⟩ (.int .i64 r.1.val)).setCell ⟨X + 1, 1, none⟩ (.string r.1.script)).setCell ⟨X + 1, 2, none⟩ (.int .i64 r.1.height) = wz at *
          have x0 : wz.cell? ⟨X + 1, 0, none⟩ = some (.int .i64 r.1.val) := cell_at q2
          have x1 : wz.cell? ⟨X + 1, 1, none⟩ = some (.string r.1.script) := cell_at q2
          have x2 : wz.cell? ⟨X + 1, 2, none⟩ = some (.int .i64 r.1.height) := cell_at q2
          have hzz : z = (r.1, 10) := HZE.out
          rw [hzz]
          exact bodyPost_ret (v := .tuple #[cnV r.1, .int .i64 (10)]) (by simp [results, Tryz.results33, go_sem, x0, x1, x2, cnV]) rfl ⟨rfl, hb3⟩
        · have HZE := Lib.hid (HZE.out.trans (if_neg (by simp)))
          have y0 : w4.cell? ⟨X + 1, 0, none⟩ = some (.int .i64 0) := cell_at HZ1.out
          have y1 : w4.cell? ⟨X + 1, 1, none⟩ = some (.string ⟨#[]⟩) := cell_at HZ1.out
          have y2 : w4.cell? ⟨X + 1, 2, none⟩ = some (.int .i64 0) := cell_at HZ1.out
          have g0 : w4.frozen? ⟨X + 1, 0, none⟩ = false := free_at HZ1.out
          have g1 : w4.frozen? ⟨X + 1, 1, none⟩ = false := free_at HZ1.out
          have g2 : w4.frozen? ⟨X + 1, 2, none⟩ = false := free_at HZ1.out
          have v0 : w4.cell? ⟨V, 0, none⟩ = some (.int .i64 r.1.val) := cell_at HZ2.out
          have v1 : w4.cell? ⟨V, 1, none⟩ = some (.string r.1.script) := cell_at HZ2.out
          have v2 : w4.cell? ⟨V, 2, none⟩ = some (.int .i64 r.1.height) := cell_at HZ2.out
          go_wp2_with fail
          have q0 := heap_setCell_at (j := 0) (u := .int .i64 r.1.val) HZ1.out
          have q1 := heap_setCell_at (j := 1) (u := .string r.1.script) q0
          have q2 := heap_setCell_at (j := 2) (u := .int .i64 r.1.height) q1
          have hb3 := ((HB4.out.setCell (p := ⟨X + 1, 0, none⟩) hXw.2 (.int .i64 r.1.val)).setCell (p := ⟨X + 1, 1, none⟩) hXw.2 (.string r.1.script)).setCell (p := ⟨X + 1, 2, none⟩) hXw.2 (.int .i64 r.1.height)
          generalize ((w4.setCell ⟨X + 1, 0, none⟩ (.int .i64 r.1.val)).setCell ⟨X + 1, 1, none⟩ (.string r.1.script)).setCell ⟨X + 1, 2, none⟩ (.int .i64 r.1.height) = wz at *
          have x0 : wz.cell? ⟨X + 1, 0, none⟩ = some (.int .i64 r.1.val) := cell_at q2
          have x1 : wz.cell? ⟨X + 1, 1, none⟩ = some (.string r.1.script) := cell_at q2
          have x2 : wz.cell? ⟨X + 1, 2, none⟩ = some (.int .i64 r.1.height) := cell_at q2
          have hzz : z = (r.1, 0) := HZE.out
          rw [hzz]
          exact bodyPost_ret (v := .tuple #[cnV r.1, .int .i64 (0)]) (by simp [results, Tryz.results33, go_sem, x0, x1, x2, cnV]) rfl ⟨rfl, hb3⟩
      · have HZE := Lib.hid (HZE.out.trans (if_pos ho))
        have hne : (oc != 0) = true := by rw [bne_iff_ne]; exact ho
        clear ho
        have y0 : w3.cell? ⟨X + 1, 0, none⟩ = some (.int .i64 0) := cell_at HZ1.out
        have y1 : w3.cell? ⟨X + 1, 1, none⟩ = some (.string ⟨#[]⟩) := cell_at HZ1.out
        have y2 : w3.cell? ⟨X + 1, 2, none⟩ = some (.int .i64 0) := cell_at HZ1.out
        have g0 : w3.frozen? ⟨X + 1, 0, none⟩ = false := free_at HZ1.out
        have g1 : w3.frozen? ⟨X + 1, 1, none⟩ = false := free_at HZ1.out
        have g2 : w3.frozen? ⟨X + 1, 2, none⟩ = false := free_at HZ1.out
        have v0 : w3.cell? ⟨V, 0, none⟩ = some (.int .i64 r.1.val) := cell_at HZ2.out
        have v1 : w3.cell? ⟨V, 1, none⟩ = some (.string r.1.script) := cell_at HZ2.out
        have v2 : w3.cell? ⟨V, 2, none⟩ = some (.int .i64 r.1.height) := cell_at HZ2.out
        go_wp2_with fail
        have q0 := heap_setCell_at (j := 0) (u := .int .i64 r.1.val) HZ1.out
        have q1 := heap_setCell_at (j := 1) (u := .string r.1.script) q0
        have q2 := heap_setCell_at (j := 2) (u := .int .i64 r.1.height) q1
        have hb3 := ((HB3.out.setCell (p := ⟨X + 1, 0, none⟩) hXw.2 (.int .i64 r.1.val)).setCell (p := ⟨X + 1, 1, none⟩) hXw.2 (.string r.1.script)).setCell (p := ⟨X + 1, 2, none⟩) hXw.2 (.int .i64 r.1.height)
        generalize ((w3.setCell ⟨X + 1, 0, none⟩ (.int .i64 r.1.val)).setCell ⟨X + 1, 1, none⟩ (.string r.1.script)).setCell ⟨X + 1, 2, none⟩ (.int .i64 r.1.height) = wz at *
        have x0 : wz.cell? ⟨X + 1, 0, none⟩ = some (.int .i64 r.1.val) := cell_at q2
        have x1 : wz.cell? ⟨X + 1, 1, none⟩ = some (.string r.1.script) := cell_at q2
        have x2 : wz.cell? ⟨X + 1, 2, none⟩ = some (.int .i64 r.1.height) := cell_at q2
        have hzz : z = (r.1, oc) := HZE.out
        rw [hzz]
        exact bodyPost_ret (v := .tuple #[cnV r.1, .int .i64 (oc)]) (by simp [results, Tryz.results33, go_sem, x0, x1, x2, cnV]) rfl ⟨rfl, hb3⟩
end Go.Proofs.YtelindgnkpfkiaaGreatDoor
end

section
/-
  check.Fee. Conditions: the coins and the transaction lie in memory; errors.errorType holds its handle.
-/
namespace Go.Proofs.YtelindgnkpfkiaaGreatDoor
open Go.RowKit Go.BigFrame
set_option linter.unusedVariables false
set_option linter.unusedSimpArgs false

theorem asub_any (a b : Int) (w : World) (ha : goodA a = true) (hb : goodA b = true) (hab : b ≤ a) : Calls Tryz.prog 35 #[.int .i64 a, .int .i64 b] w fun e w' => e = .returned (.tuple #[.int .i64 (a - b), .int .i64 0]) ∧ w = w' := by
  have h1 := (goodA_iff a).1 ha
  have h2 := (goodA_iff b).1 hb
  have HG := Lib.hid (fun x w => good_any x w)
  have hw : IntKind.i64.wrap (a - b) = a - b := by rw [IntKind.wrap_i64]; omega
  go_enter Tryz.func35, Tryz.ntmps35
  go_wp2_with (go_at_call 66; refine (HG.out _ w).mono ?_; rintro e w' ⟨rfl, rfl⟩)
  go_ret2
  exact ⟨rfl, rfl⟩
/-- The first input that may not spend its coin, and why. -/
def spEr (g : Pt → PCn × Bool) (t : PTx) (h : Int) : Nat → List PIn → Option (Nat × Int)
  | _, [] => none
  | i, x :: r => if (spentR (g (x.id, x.idx)) t i h).2 ≠ 0 then some (i, (spentR (g (x.id, x.idx)) t i h).2) else spEr g t h (i + 1) r
def valsG (g : Pt → PCn × Bool) (l : List PIn) : List Int := l.map fun x => (g (x.id, x.idx)).1.val
noncomputable def feeE (g : Pt → PCn × Bool) (t : PTx) (h : Int) : Int × PEr :=
  if formE t ≠ 0 then (0, .num (formE t))
  else match spEr g t h 0 t.ins with
    | some x => (0, .fault x.1 x.2)
    | none => if (sumA 0 (valsG g t.ins)).2 ≠ 0 then (0, .num (sumA 0 (valsG g t.ins)).2)
      else if (sumA 0 (valsG g t.ins)).1 < (sumA 0 (t.outs.map (·.val))).1 then (0, .num 12)
      else ((sumA 0 (valsG g t.ins)).1 - (sumA 0 (t.outs.map (·.val))).1, .none)
def FeeIs (z : Int × PEr) (w : World) (e : Ending) (w' : World) : Prop := ∃ v, e = .returned (.tuple #[.int .i64 z.1, v]) ∧ ErAt w' v z.2 ∧ Below w.heap.size w w'
theorem spEr_at (g : Pt → PCn × Bool) (t : PTx) (h : Int) : ∀ (l : List PIn) (i k : Nat) (x : PIn), l[k]? = some x → (∀ j y, j < k → l[j]? = some y → (spentR (g (y.id, y.idx)) t (i + j) h).2 = 0) → (spentR (g (x.id, x.idx)) t (i + k) h).2 ≠ 0 → spEr g t h i l = some (i + k, (spentR (g (x.id, x.idx)) t (i + k) h).2)
  | [], i, k, x, hx, _, _ => by simp at hx
  | y :: r, i, 0, x, hx, _, hne => by
    obtain rfl : y = x := by simpa using hx
    rw [Nat.add_zero] at hne ⊢
    show (if (spentR (g (y.id, y.idx)) t i h).2 ≠ 0 then _ else _) = _
    rw [if_pos hne]
  | y :: r, i, k + 1, x, hx, hall, hne => by
    have h0 := hall 0 y (by omega) rfl
    have e1 : i + 1 + k = i + (k + 1) := by omega
    have := spEr_at g t h r (i + 1) k x (by simpa using hx) (fun j z hj hz => by
      have := hall (j + 1) z (by omega) (by simpa using hz)
      rw [show i + 1 + j = i + (j + 1) by omega]
      exact this) (by rw [e1]; exact hne)
    show (if (spentR (g (y.id, y.idx)) t i h).2 ≠ 0 then _ else spEr g t h (i + 1) r) = _
    rw [if_neg (by rw [show i = i + 0 by omega]; simpa using h0), this, e1]
theorem spEr_no (g : Pt → PCn × Bool) (t : PTx) (h : Int) : ∀ (l : List PIn) (i : Nat), (∀ j y, l[j]? = some y → (spentR (g (y.id, y.idx)) t (i + j) h).2 = 0) → spEr g t h i l = none
  | [], i, _ => rfl
  | y :: r, i, hall => by
    have h0 := hall 0 y rfl
    show (if (spentR (g (y.id, y.idx)) t i h).2 ≠ 0 then _ else spEr g t h (i + 1) r) = _
    rw [if_neg (by rw [show i = i + 0 by omega]; simpa using h0)]
    exact spEr_no g t h r (i + 1) fun j z hz => by
      rw [show i + 1 + j = i + (j + 1) by omega]
      exact hall (j + 1) z (by simpa using hz)
theorem feeE_form {g : Pt → PCn × Bool} {t : PTx} {h : Int} (hf : formE t ≠ 0) : feeE g t h = (0, .num (formE t)) := by unfold feeE; rw [if_pos hf]
theorem feeE_fault {g : Pt → PCn × Bool} {t : PTx} {h : Int} (hf : formE t = 0) {k : Nat} {x : PIn} (hx : t.ins[k]? = some x) (hall : ∀ j y, j < k → t.ins[j]? = some y → (spentR (g (y.id, y.idx)) t j h).2 = 0) (hne : (spentR (g (x.id, x.idx)) t k h).2 ≠ 0) : feeE g t h = (0, .fault k (spentR (g (x.id, x.idx)) t k h).2) := by
  have := spEr_at g t h t.ins 0 k x hx (fun j y h1 h2 => by rw [Nat.zero_add]; exact hall j y h1 h2) (by rw [Nat.zero_add]; exact hne)
  rw [Nat.zero_add] at this
  unfold feeE
  rw [if_neg (by simp [hf]), this]
theorem feeE_sum {g : Pt → PCn × Bool} {t : PTx} {h : Int} (hf : formE t = 0) (hall : ∀ j y, t.ins[j]? = some y → (spentR (g (y.id, y.idx)) t j h).2 = 0) :
    feeE g t h = if (sumA 0 (valsG g t.ins)).2 ≠ 0 then (0, .num (sumA 0 (valsG g t.ins)).2) else if (sumA 0 (valsG g t.ins)).1 < (sumA 0 (t.outs.map (·.val))).1 then (0, .num 12) else ((sumA 0 (valsG g t.ins)).1 - (sumA 0 (t.outs.map (·.val))).1, .none) := by
  have := spEr_no g t h t.ins 0 (fun j y h2 => by rw [Nat.zero_add]; exact hall j y h2)
  unfold feeE
  rw [if_neg (by simp [hf]), this]
theorem val_range {l : CL} {tot : Int} (h : CWf l tot) (p : Pt) : 0 ≤ (getP noCn p l).1.val ∧ (getP noCn p l).1.val ≤ 2100000000000000 := by
  cases hf : (getP noCn p l).2 with
  | true =>
    obtain ⟨i, hi⟩ := getP_some hf
    obtain ⟨j, s, -, hj⟩ := lkP_spec p l 0 _ hi
    exact (goodA_iff _).1 (h.good _ (List.mem_of_getElem? hj))
  | false =>
    have := lkP_none hf
    unfold getP
    rw [this]
    decide
theorem sumA_goodK : ∀ (l : List Int) (s : Int), goodA s = true → (sumA s l).2 = 0 → goodA (sumA s l).1 = true
  | [], s, hs, _ => hs
  | a :: l, s, hs, h => by
    unfold sumA at h ⊢
    split
    · rename_i h1
      rw [if_pos h1] at h
      simp only [Bool.and_eq_true] at h1
      exact sumA_goodK l _ h1.2 h
    · rename_i h1
      rw [if_neg h1] at h
      exact absurd h (by decide)
theorem form_outs {t : PTx} (h : formE t = 0) : goodA (sumA 0 (t.outs.map (·.val))).1 = true := by
  have hc : checkOf t = 0 := Classical.byContradiction fun hn => by
    unfold formE at h
    rw [if_pos hn] at h
    exact hn h
  refine sumA_goodK _ 0 (by decide) ?_
  unfold checkOf at hc
  split at hc
  · split at hc
    · exact absurd hc (by decide)
    · split at hc
      · split at hc
        · exact absurd hc (by decide)
        · exact hc
      · exact absurd hc (by decide)
  · exact absurd hc (by decide)
set_option maxRecDepth 100000 in
set_option maxHeartbeats 8000000 in
theorem kfee_any {B : Nat} {w : World} {b m : Nat} {lc : CL} {c : Nat} {tot : Int} (hc : CsAt B w b m lc c tot) (hsz : ∀ p, (getP noCn p lc).1.script.size ≤ 9223372036854775807) (v : Value) (t : PTx) (ht : Int) (hh : ht ≤ 9223372036854775807) (hv : TxAt w v t) (hlen : t.outs.length ≤ 1000) (hins : t.ins.length ≤ 1000) :
    Calls Tryz.prog 9 #[.iface 29 (.pointer (some ⟨b, 0, none⟩)), v, .int .i64 ht] w (FeeIs (feeE (fun p => getP noCn p lc) t ht) w) := by
  have HTX := Lib.hid hv
  have HC := Lib.hid hc
  obtain ⟨va, vo, rfl, hia, hoa, -, -⟩ := hv
  obtain ⟨aa, ca, rfl, -, -⟩ := hia.shape
  obtain ⟨ao, co, rfl, -, -⟩ := hoa.shape
  have HIA := Lib.hid hia
  obtain ⟨z, hz⟩ : ∃ z, z = feeE (fun p => getP noCn p lc) t ht := ⟨_, rfl⟩
  rw [← hz]
  have HZ := Lib.hid hz
  have HFM := Lib.hid (fun y h => kformed_any b (.agg #[.int .u32 t.ver, .slice aa t.ins.length ca, .slice ao t.outs.length co, .int .u32 t.lock]) t y h hlen)
  have HSP := Lib.hid (fun y (hy : CsAt B y b m lc c tot) iv x h (hx : t.ins[iv]? = some x) => kspent_any hy (.agg #[.int .u32 t.ver, .slice aa t.ins.length ca, .slice ao t.outs.length co, .int .u32 t.lock]) t iv x ht hh h hx (hsz _))
  have HTT := Lib.hid (fun y h => total_any (.agg #[.int .u32 t.ver, .slice aa t.ins.length ca, .slice ao t.outs.length co, .int .u32 t.lock]) t y h hlen)
  obtain ⟨n, hn⟩ : ∃ n, n = t.ins.length := ⟨_, rfl⟩
  have HN := Lib.hid hn
  rw [← hn] at HTX HIA HFM HSP HTT hins ⊢
  generalize t.outs.length = k2 at *
  clear hia hoa hz hn hc
  go_enter Tryz.func9, Tryz.ntmps9
  go_upto_region 1 with fail
  have hz := heap_alloc_new w (.cells #[.int .u32 t.ver, .slice aa n ca, .slice ao k2 co, .int .u32 t.lock] 35)
  have hal : Below w.heap.size w (w.alloc (.cells #[.int .u32 t.ver, .slice aa n ca, .slice ao k2 co, .int .u32 t.lock] 35)) := (Below.refl _ _).alloc (Nat.le_refl _) _
  obtain ⟨X, hX⟩ : ∃ q, q = w.heap.size := ⟨_, rfl⟩
  rw [← hX] at hz ⊢
  generalize w.alloc (.cells #[.int .u32 t.ver, .slice aa n ca, .slice ao k2 co, .int .u32 t.lock] 35) = w0 at *
  have HB0 := Lib.hid hal
  have HZ0 := Lib.hid hz
  have HTX0 := Lib.hid (HTX.out.below hal)
  have HC0 := Lib.hid (HC.out.below hal)
  have hXw : w.heap.size ≤ X := by omega
  have t0 : w0.cell? ⟨X, 0, none⟩ = some (.int .u32 t.ver) := cell_at hz
  have t1 : w0.cell? ⟨X, 1, none⟩ = some (.slice aa n ca) := cell_at hz
  have t2 : w0.cell? ⟨X, 2, none⟩ = some (.slice ao k2 co) := cell_at hz
  have t3 : w0.cell? ⟨X, 3, none⟩ = some (.int .u32 t.lock) := cell_at hz
  have HK := Lib.hid (HFM.out w0 HTX0.out)
  clear hz hal hX
  go_wp2_with fail
  refine HK.out.mono ?_
  rintro e w1 ⟨rfl, hb⟩
  have HB1 := Lib.hid (HB0.out.trans (hb.mono HB0.out.size))
  have HC1 := Lib.hid (HC0.out.below hb)
  have HTX1 := Lib.hid (HTX0.out.below hb)
  have HZ0 := Lib.hid (stay HZ0.out hb)
  replace t0 := below_cells hb _ _ t0
  replace t1 := below_cells hb _ _ t1
  replace t2 := below_cells hb _ _ t2
  replace t3 := below_cells hb _ _ t3
  clear hb HK
  by_cases hf : formE t = 0
  · rw [hf]
    have HF := Lib.hid hf
    clear hf
    go_wp2_with fail
    go_loopg [9, 28] n (fun g r i wr => ∃ (k : Nat) (r0 : Value), r = r0 ∧ g = n - k ∧ k ≤ n ∧ i = .int .i64 k ∧ Below w1.heap.size w1 wr ∧ wr.ownsRow w1.heap.size 3 1 r0 k (intCells (valsG (fun p => getP noCn p lc) (t.ins.take k))) ∧ ∀ j y, j < k → t.ins[j]? = some y → (spentR (getP noCn (y.id, y.idx) lc) t j ht).2 = 0)
    case atStart => exact ⟨0, _, rfl, rfl, by omega, rfl, Below.refl _ _, World.ownsRow_nil w1 _ _ _, fun j y h => absurd h (by omega)⟩
    case round =>
      rename World => wo
      obtain ⟨k, r0, hr0, hgk, hk, rfl, hb, hown, hall⟩ := hrel
      obtain rfl := hr0.symm
      have HGK := Lib.hid hgk
      have HB := Lib.hid hb
      have HOWN := Lib.hid hown
      have HALL := Lib.hid hall
      have hz := stay HZ0.out hb
      have t0 : wo.cell? ⟨X, 0, none⟩ = some (.int .u32 t.ver) := cell_at hz
      have t1 : wo.cell? ⟨X, 1, none⟩ = some (.slice aa n ca) := cell_at hz
      have t2 : wo.cell? ⟨X, 2, none⟩ = some (.slice ao k2 co) := cell_at hz
      have t3 : wo.cell? ⟨X, 3, none⟩ = some (.int .u32 t.lock) := cell_at hz
      clear hgk hb hown hall hz
      by_cases hlt : k < n
      · obtain ⟨x, hx⟩ : ∃ x, t.ins[k]? = some x := ⟨_, List.getElem?_eq_getElem (by rw [← HN.out]; exact hlt)⟩
        have HX := Lib.hid hx
        have HQ := Lib.hid (HSP.out wo (HC1.out.below HB.out) k x (HTX1.out.below HB.out) hx)
        obtain ⟨sr, hsr⟩ : ∃ q, q = spentR (getP noCn (x.id, x.idx) lc) t k ht := ⟨_, rfl⟩
        rw [← hsr] at HQ
        have HSR := Lib.hid hsr
        have HS1 := Lib.hid (show sr.1 = (getP noCn (x.id, x.idx) lc).1 by rw [hsr]; unfold spentR; split; rfl; split; rfl; split <;> rfl)
        unfold cnV at HQ
        clear hx hsr
        go_wp2_with fail
        refine HQ.out.mono ?_
        rintro e w3 ⟨rfl, hb⟩
        have HB3 := Lib.hid (HB.out.trans (hb.mono HB.out.size))
        have HO3 := Lib.hid (ownsRow_below HOWN.out hb)
        clear hb HQ t0 t1 t2 t3
        go_upto_region 9 with fail
        have hz := heap_alloc_new w3 (.cells #[.int .i64 sr.1.val, .string sr.1.script, .int .i64 sr.1.height] 50)
        have hal : Below w3.heap.size w3 (w3.alloc (.cells #[.int .i64 sr.1.val, .string sr.1.script, .int .i64 sr.1.height] 50)) := (Below.refl _ _).alloc (Nat.le_refl _) _
        obtain ⟨Q, hQ⟩ : ∃ q, q = w3.heap.size := ⟨_, rfl⟩
        rw [← hQ] at hz ⊢
        generalize w3.alloc (.cells #[.int .i64 sr.1.val, .string sr.1.script, .int .i64 sr.1.height] 50) = w4 at *
        have HB4 := Lib.hid (HB3.out.trans (hal.mono HB3.out.size))
        have HO4 := Lib.hid (ownsRow_below HO3.out hal)
        have e0 : w4.cell? ⟨Q, 0, none⟩ = some (.int .i64 sr.1.val) := cell_at hz
        clear hz hal hQ
        by_cases her : sr.2 = 0
        · rw [her]
          have HE := Lib.hid her
          clear her
          have HALL2 := Lib.hid (show ∀ j y, j < k + 1 → t.ins[j]? = some y → (spentR (getP noCn (y.id, y.idx) lc) t j ht).2 = 0 from fun j y hj hy => by
            by_cases hjk : j = k
            · subst hjk
              rw [HX.out] at hy
              obtain rfl := Option.some.inj hy
              rw [← HSR.out]; exact HE.out
            · exact HALL.out j y (by omega) hy)
          have HVS := Lib.hid (show valsG (fun p => getP noCn p lc) (t.ins.take (k + 1)) = valsG (fun p => getP noCn p lc) (t.ins.take k) ++ [sr.1.val] by
            rw [List.take_add_one, HX.out, HS1.out]; simp [valsG])
          obtain ⟨a6, c6, rfl, -, -⟩ := ownsRow_shape HO4.out
          obtain ⟨i0, hi, hz0, hz1, hz2⟩ := info_parts info_int
          obtain ⟨a3, c3, w5, hrun, hown3, hb3, -⟩ := append_el (P := Tryz.prog) Tryz.underlying62 hi hz0 hz1 hz2 rfl HO4.out #[.int .i64 sr.1.val] rfl (by simp [Value.oneCell']) (by rw [maxLen_eq]; omega) (by omega) (by have := HB4.out.size; omega) (ty := 62)
          have HR := Lib.hid hrun
          have HO5 := Lib.hid hown3
          have HB5 := Lib.hid (HB4.out.trans hb3)
          clear hi hz0 hz1 hz2 hrun hown3 hb3
          go_wp2_with (at_builtin; refine wpList_append_run rfl (.tmp 47) (.tmp 51) 62 62 rfl rfl rfl HR.out ?_)
          go_roundg (n - (k + 1))
          case measure => have := HGK.out; omega
          case rel =>
            refine ⟨k + 1, _, rfl, rfl, by omega, by go_num, HB5.out, ?_, HALL2.out⟩
            rw [HVS.out]
            have := HO5.out
            simpa [intCells] using this
        · have hne : (sr.2 != 0) = true := by rw [bne_iff_ne]; exact her
          have HFE := Lib.hid (HZ.out.trans (feeE_fault (g := fun p => getP noCn p lc) HF.out HX.out HALL.out (by rw [← HSR.out]; exact her)))
          rw [← HSR.out] at HFE
          clear her
          go_wp2_with fail
          go_ret2
          rw [HFE.out]
          exact ⟨_, rfl, ⟨_, rfl, heap_alloc_new w4 _⟩, (HB1.out.trans (HB4.out.mono HB1.out.size)).alloc (Nat.le_trans HB1.out.size HB4.out.size) _⟩
      · obtain rfl : k = n := by omega
        have htk : (t.ins.take k) = t.ins := List.take_of_length_le (by rw [HN.out]; exact Nat.le_refl _)
        have hsl : SlAt (rpInt .i64) wo r0 (valsG (fun p => getP noCn p lc) t.ins) := SlAt.of_ints (by have := HOWN.out; rw [htk] at this; exact this) (by unfold valsG; rw [List.length_map, HN.out]) (fun x hx => by
          obtain ⟨y, -, rfl⟩ := List.mem_map.1 hx
          exact wf_of (by have := val_range HC.out.cwf (y.id, y.idx); show _ ≤ (getP noCn (y.id, y.idx) lc).1.val ∧ (getP noCn (y.id, y.idx) lc).1.val ≤ _; omega))
        have HS := Lib.hid hsl
        have hfs := feeE_sum (g := fun p => getP noCn p lc) (h := ht) HF.out (fun j y hy => HALL.out j y (by rw [HN.out]; exact (List.getElem?_eq_some_iff.1 hy).1) hy)
        have HFS := Lib.hid (HZ.out.trans hfs)
        have HAS := Lib.hid (asum_any _ _ wo HS.out)
        unfold SumAIs at HAS
        have hgo := form_outs HF.out
        have hgs := sumA_goodK (valsG (fun p => getP noCn p lc) t.ins) 0 (by decide)
        obtain ⟨s1, hs1⟩ : ∃ q, q = sumA 0 (valsG (fun p => getP noCn p lc) t.ins) := ⟨_, rfl⟩
        obtain ⟨s2, hs2⟩ : ∃ q, q = sumA 0 (t.outs.map (·.val)) := ⟨_, rfl⟩
        unfold TotIs at HTT
        rw [← hs1] at HFS HAS hgs
        rw [← hs2] at HFS HTT hgo
        have HGO := Lib.hid hgo
        have HGS := Lib.hid hgs
        have HT2 := Lib.hid (HTT.out wo (HTX1.out.below HB.out))
        obtain ⟨a6, c6, rfl, -, -⟩ := ownsRow_shape HOWN.out
        clear hsl htk hfs hgo hgs hs1 hs2
        go_wp2_with fail
        refine HAS.out.mono ?_
        rintro e w3 ⟨rfl, rfl⟩
        by_cases he : s1.2 = 0
        · rw [he]
          have HE := Lib.hid he
          have HFS := Lib.hid (HFS.out.trans (if_neg (by simp [he])))
          clear he
          go_wp2_with fail
          refine HT2.out.mono ?_
          rintro e w4 ⟨rfl, hb⟩
          have HB4 := Lib.hid (HB1.out.trans ((HB.out.trans (hb.mono HB.out.size)).mono HB1.out.size))
          clear hb t0 t1 t2 t3
          by_cases hlt2 : s1.1 < s2.1
          · have HFS := Lib.hid (HFS.out.trans (if_pos hlt2))
            go_wp2_with fail
            go_ret2
            rw [HFS.out]
            exact ⟨_, rfl, rfl, HB4.out⟩
          · have HFS := Lib.hid (HFS.out.trans (if_neg hlt2))
            have HSB := Lib.hid (fun y => asub_any s1.1 s2.1 y (HGS.out HE.out) HGO.out (by omega))
            have HTO := Lib.hid (fun y => told_any 0 y)
            rw [if_pos rfl] at HTO
            go_wp2_with fail
            refine (HSB.out w4).mono ?_
            rintro e w5 ⟨rfl, rfl⟩
            go_wp2_with fail
            refine (HTO.out w4).mono ?_
            rintro e w5 ⟨rfl, rfl⟩
            go_wp2_with fail
            go_ret2
            rw [HFS.out]
            exact ⟨_, rfl, rfl, HB4.out⟩
        · have hne : (s1.2 != 0) = true := by rw [bne_iff_ne]; exact he
          have HFS := Lib.hid (HFS.out.trans (if_pos he))
          clear he
          go_wp2_with fail
          go_ret2
          rw [HFS.out]
          exact ⟨_, rfl, rfl, HB1.out.trans (HB.out.mono HB1.out.size)⟩
  · have hne : (formE t != 0) = true := by rw [bne_iff_ne]; exact hf
    have HFE := Lib.hid (HZ.out.trans (feeE_form hf))
    generalize formE t = fe at *
    clear hf
    go_wp2_with fail
    go_ret2
    rw [HFE.out]
    exact ⟨_, rfl, rfl, HB1.out⟩
set_option maxRecDepth 100000 in
set_option maxHeartbeats 4000000 in
theorem kfee_nil (v : Value) (t : PTx) (ht : Int) (w : World) (hv : TxAt w v t) :
    Calls Tryz.prog 9 #[.nilIface, v, .int .i64 ht] w (FeeIs (0, .num 1) w) := by
  have HTX := Lib.hid hv
  obtain ⟨va, vo, rfl, hia, hoa, -, -⟩ := hv
  obtain ⟨aa, ca, rfl, -, -⟩ := hia.shape
  obtain ⟨ao, co, rfl, -, -⟩ := hoa.shape
  have HFM := Lib.hid (fun y h => kformed_nil (.agg #[.int .u32 t.ver, .slice aa t.ins.length ca, .slice ao t.outs.length co, .int .u32 t.lock]) t y h)
  generalize t.ins.length = n at *
  generalize t.outs.length = k2 at *
  clear hia hoa
  go_enter Tryz.func9, Tryz.ntmps9
  go_upto_region 1 with fail
  have hz := heap_alloc_new w (.cells #[.int .u32 t.ver, .slice aa n ca, .slice ao k2 co, .int .u32 t.lock] 35)
  have hal : Below w.heap.size w (w.alloc (.cells #[.int .u32 t.ver, .slice aa n ca, .slice ao k2 co, .int .u32 t.lock] 35)) := (Below.refl _ _).alloc (Nat.le_refl _) _
  obtain ⟨X, hX⟩ : ∃ q, q = w.heap.size := ⟨_, rfl⟩
  rw [← hX] at hz ⊢
  generalize w.alloc (.cells #[.int .u32 t.ver, .slice aa n ca, .slice ao k2 co, .int .u32 t.lock] 35) = w0 at *
  have HB0 := Lib.hid hal
  have t0 : w0.cell? ⟨X, 0, none⟩ = some (.int .u32 t.ver) := cell_at hz
  have t1 : w0.cell? ⟨X, 1, none⟩ = some (.slice aa n ca) := cell_at hz
  have t2 : w0.cell? ⟨X, 2, none⟩ = some (.slice ao k2 co) := cell_at hz
  have t3 : w0.cell? ⟨X, 3, none⟩ = some (.int .u32 t.lock) := cell_at hz
  have HK := Lib.hid (HFM.out w0 (HTX.out.below hal))
  clear hz hal hX
  go_wp2_with fail
  refine HK.out.mono ?_
  rintro e w1 ⟨rfl, hb⟩
  have HB1 := Lib.hid (HB0.out.trans (hb.mono HB0.out.size))
  clear hb
  go_wp2_with fail
  go_ret2
  exact ⟨_, rfl, rfl, HB1.out⟩
end Go.Proofs.YtelindgnkpfkiaaGreatDoor
end

section
/-
  The document's coins: rows of entries, Total, Put. Conditions: the entries lie in memory.
-/
namespace Go.Proofs.YtelindgnkpfkiaaGreatDoor
open Go.RowKit Go.BigFrame
set_option linter.unusedVariables false
set_option linter.unusedSimpArgs false

def enRow (x : PEn) : List Value := [.string x.id, .int .u32 x.idx, .int .i64 x.val, .string x.script, .int .i64 x.ht]
def ensCells (l : List PEn) : List Value := l.flatMap enRow
theorem enRow_len (x : PEn) : (enRow x).length = 5 := rfl
theorem ensCells_len (l : List PEn) : (ensCells l).length = l.length * 5 := flat_len enRow 5 enRow_len l
theorem ensCells_snoc (l : List PEn) (a : PEn) : ensCells (l ++ [a]) = ensCells l ++ enRow a := by simp [ensCells]
structure EnsOwn (base : Nat) (w : World) (v : Value) (l : List PEn) : Prop where
  row : w.ownsRow base 53 5 v l.length (ensCells l)
  ok : ∀ x ∈ l, x.Ok
theorem EnsOwn.sl {base : Nat} {w : World} {v : Value} {l : List PEn} (h : EnsOwn base w v l) : SlAt rpEn w v l := by
  obtain ⟨a, c, e, h1, h2⟩ := ownsRow_shape h.row
  subst e
  refine ⟨a, c, rfl, h1, h2, fun i x hi => ?_⟩
  have hil : i < l.length := (List.getElem?_eq_some_iff.1 hi).1
  obtain ⟨b, rfl, hb, hb2⟩ := ownsRow_some h.row (by omega)
  refine ⟨b, 0, enRow x, rfl, rfl, fun j u hj => ?_, rfl, h.ok x (List.mem_of_getElem? hi)⟩
  have hj8 : j < 5 := (List.getElem?_eq_some_iff.1 hj).1
  have := h.row.cells (g := b) rfl (i * 5 + j) u (by rw [show ensCells l = l.flatMap enRow from rfl, flat_at enRow 5 enRow_len l i x hi j hj8]; exact hj)
  rw [Addr.add_lit] at this
  simpa [rpEn] using this
theorem EnsOwn.below {base : Nat} {w w' : World} {v : Value} {l : List PEn} (h : EnsOwn base w v l) (hb : Below w.heap.size w w') : EnsOwn base w' v l := ⟨ownsRow_below h.row hb, h.ok⟩
theorem EnsOwn.kept {base : Nat} {w w' : World} {v : Value} {l : List PEn} (h : EnsOwn base w v l) (hk : ∀ b, v.ownBlock = some b → w'.heap[b]? = w.heap[b]?) : EnsOwn base w' v l := ⟨ownsRow_of_block h.row hk, h.ok⟩
theorem EnsOwn.base {base base' : Nat} {w : World} {v : Value} {l : List PEn} (h : EnsOwn base w v l) (hb : base' ≤ base) : EnsOwn base' w v l := ⟨ownsRow_base h.row hb, h.ok⟩
theorem ensOwn_nil (base : Nat) (w : World) : EnsOwn base w (.slice none 0 0) [] := ⟨World.ownsRow_nil _ _ _ _, fun x hx => by simp at hx⟩
theorem info_en : (Tryz.prog.info? 53).map (fun i => (i.zero, i.size, i.bytes)) = some (some (.agg #[.string ByteArray.empty, .int .u32 0, .int .i64 0, .string ByteArray.empty, .int .i64 0]), 5, 56) := by kernel_rfl
theorem EnsOwn.snoc {base : Nat} {w' : World} {v' : Value} {l : List PEn} {x : PEn} (hok : ∀ y ∈ l, y.Ok) (hx : x.Ok) (hrow : w'.ownsRow base 53 5 v' (l.length + 1) (ensCells l ++ enRow x)) : EnsOwn base w' v' (l ++ [x]) :=
  ⟨by rw [ensCells_snoc, List.length_append]; exact hrow, fun y hy => by
    rcases List.mem_append.1 hy with h | h
    · exact hok y h
    · obtain rfl := List.mem_singleton.1 h
      exact hx⟩

/-! ### the plain law -/
def totR (l : List PEn) : Int := (l.map (·.val)).sum
theorem totR_step {l : List PEn} {k : Nat} {x : PEn} (h : l[k]? = some x) : totR (l.take (k + 1)) = totR (l.take k) + x.val := by
  unfold totR
  rw [List.take_add_one, h]
  simp
theorem totR_le {l : List PEn} (h : ∀ x ∈ l, 0 ≤ x.val) (k : Nat) : 0 ≤ totR (l.take k) ∧ totR (l.take k) ≤ totR l := by
  have h0 : ∀ l : List PEn, (∀ x ∈ l, 0 ≤ x.val) → 0 ≤ totR l := by
    intro l
    induction l with
    | nil => intro _; decide
    | cons a l ih =>
      intro h
      have := ih fun x hx => h x (by simp [hx])
      have := h a (by simp)
      unfold totR at *
      simp only [List.map_cons, List.sum_cons]
      omega
  have h1 := h0 (l.take k) fun x hx => h x (List.mem_of_mem_take hx)
  have h2 := h0 (l.drop k) fun x hx => h x (List.mem_of_mem_drop hx)
  have h3 : totR l = totR (l.take k) + totR (l.drop k) := by
    unfold totR
    rw [← List.sum_append, ← List.map_append, List.take_append_drop]
  omega
def insS (x : PEn) (s : List PEn × Bool) (y : PEn) : List PEn × Bool := if lessPt x.pt y.pt && !s.2 then (s.1 ++ [x] ++ [y], true) else (s.1 ++ [y], s.2)
def insF (x : PEn) (l : List PEn) : List PEn × Bool := l.foldl (insS x) ([], false)
def rputL (x : PEn) (l : List PEn) : List PEn := bif (insF x l).2 then (insF x l).1 else (insF x l).1 ++ [x]
theorem insF_snoc (x : PEn) (l : List PEn) (y : PEn) : insF x (l ++ [y]) = insS x (insF x l) y := by simp [insF]
theorem insF_step {x : PEn} {l : List PEn} {k : Nat} {y : PEn} (h : l[k]? = some y) : insF x (l.take (k + 1)) = insS x (insF x (l.take k)) y := by
  rw [← insF_snoc, List.take_add_one, h]
  rfl
theorem insS_yes {x y : PEn} {s : List PEn} (h : lessPt x.pt y.pt = true) : insS x (s, false) y = (s ++ [x] ++ [y], true) := by unfold insS; rw [h]; rfl
theorem insS_no {x y : PEn} {s : List PEn} {d : Bool} (h : (lessPt x.pt y.pt && !d) = false) : insS x (s, d) y = (s ++ [y], d) := by unfold insS; dsimp only; rw [h]; rfl
theorem insF_len (x : PEn) (l : List PEn) : (insF x l).1.length = l.length + (insF x l).2.toNat := by
  have : ∀ (l : List PEn) (s : List PEn) (d : Bool), (l.foldl (insS x) (s, d)).1.length + d.toNat = s.length + l.length + (l.foldl (insS x) (s, d)).2.toNat := by
    intro l
    induction l with
    | nil => intro s d; rfl
    | cons y l ih =>
      intro s d
      rw [List.foldl_cons, List.length_cons]
      cases hc : (lessPt x.pt y.pt && !d) with
      | true =>
        obtain ⟨h1, h2⟩ : lessPt x.pt y.pt = true ∧ d = false := by simpa using hc
        subst h2
        rw [insS_yes h1]
        have h := ih (s ++ [x] ++ [y]) true
        simp only [List.length_append, List.length_singleton, Bool.toNat_true, Bool.toNat_false] at h ⊢
        omega
      | false =>
        rw [insS_no hc]
        have h := ih (s ++ [y]) d
        simp only [List.length_append, List.length_singleton] at h
        omega
  have h := this l [] false
  rw [Bool.toNat_false, List.length_nil, Nat.zero_add, Nat.add_zero] at h
  exact h
theorem insF_perm (x : PEn) (l : List PEn) : (insF x l).1.Perm (bif (insF x l).2 then x :: l else l) := by
  have : ∀ (l r : List PEn) (s : List PEn) (d : Bool), s.Perm (bif d then x :: r else r) → (l.foldl (insS x) (s, d)).1.Perm (bif (l.foldl (insS x) (s, d)).2 then x :: (r ++ l) else r ++ l) := by
    intro l
    induction l with
    | nil => intro r s d h; rw [List.append_nil]; exact h
    | cons y l ih =>
      intro r s d h
      rw [List.foldl_cons, show r ++ y :: l = (r ++ [y]) ++ l by simp]
      cases hc : (lessPt x.pt y.pt && !d) with
      | true =>
        obtain ⟨h1, h2⟩ : lessPt x.pt y.pt = true ∧ d = false := by simpa using hc
        subst h2
        rw [insS_yes h1]
        refine ih (r ++ [y]) _ true ?_
        have h' : s.Perm r := h
        rw [List.append_assoc]
        exact (List.perm_append_comm (l₁ := s) (l₂ := [x] ++ [y])).trans ((List.Perm.cons x ((List.Perm.cons y h').trans (List.perm_append_comm (l₁ := [y]) (l₂ := r)))))
      | false =>
        rw [insS_no hc]
        refine ih (r ++ [y]) _ d ?_
        cases d
        · exact List.Perm.append_right [y] h
        · exact List.Perm.append_right [y] h
  exact this l [] [] false (List.Perm.refl _)
theorem rput_perm (x : PEn) (l : List PEn) : (rputL x l).Perm (x :: l) := by
  have h := insF_perm x l
  unfold rputL
  cases hc : (insF x l).2 with
  | true => rw [hc] at h; exact h
  | false =>
    rw [hc] at h
    exact (List.Perm.append_right [x] h).trans (List.perm_append_comm (l₁ := l) (l₂ := [x]))
def enC (x : PEn) : PCn := ⟨x.val, x.script, x.ht⟩
def rfound (l : List PEn) (p : Pt) : Option Nat := l.findIdx? fun y => decide (y.pt = p)
def rputE (l : List PEn) (x : PEn) : Int := if formedC x.pt (enC x) = false then 2 else if (rfound l x.pt).isSome = true then 7 else if goodA (totR l + x.val) = false then 3 else 0
def rput (l : List PEn) (x : PEn) : List PEn := if rputE l x = 0 then rputL x l else l
def RPutIs (base : Nat) (l : List PEn) (x : PEn) (w : World) (e : Ending) (w' : World) : Prop := ∃ v, e = .returned (.tuple #[v, .int .i64 (rputE l x)]) ∧ EnsOwn base w' v (rput l x) ∧ Below w.heap.size w w'
set_option maxRecDepth 100000 in
set_option maxHeartbeats 2000000 in
theorem rtot10_any (v : Value) (l : List PEn) (w : World) (hv : SlAt rpEn w v l) (hg : ∀ x ∈ l, 0 ≤ x.val) (ht : totR l ≤ 2100000000000000) : Calls Tryz.prog 63 #[v] w fun e w' => e = .returned (.int .i64 (totR l)) ∧ w = w' := by
  have HSL := Lib.hid hv
  have HLE := Lib.hid (totR_le hg)
  obtain ⟨a, c, rfl, hl1, hl2⟩ := hv.shape
  rw [maxLen_eq] at hl2
  obtain ⟨n, hn⟩ : ∃ n, n = l.length := ⟨_, rfl⟩
  rw [← hn] at hl1 HSL ⊢
  have HN := Lib.hid hn
  have HT := Lib.hid ht
  have HG := Lib.hid hg
  clear hn hv hg ht
  go_enter Tryz.func63, Tryz.ntmps63
  go_wp2_with fail
  go_loopg [3, 4] n (fun g s i wr => ∃ k : Nat, g = n - k ∧ k ≤ n ∧ s = .int .i64 (totR (l.take k)) ∧ i = .int .i64 k ∧ wr = w)
  case atStart => exact ⟨0, rfl, by omega, rfl, rfl, rfl⟩
  case round =>
    rename World => wo
    obtain ⟨k, hgk, hk, rfl, rfl, rfl⟩ := hrel
    have HGK := Lib.hid hgk
    clear hgk
    by_cases hlt : k < n
    · obtain ⟨b, o, x, rfl, hx, hok, d0, d1, d2, d3, d4⟩ := HSL.out.en hlt
      have HNX := Lib.hid (totR_step hx)
      have h1 := HLE.out k
      have h2 := HLE.out (k + 1)
      have h3 := HT.out
      rw [HNX.out] at h2
      generalize totR (l.take k) = s0 at *
      have hw1 : IntKind.i64.wrap (s0 + x.val) = s0 + x.val := by rw [IntKind.wrap_i64]; omega
      clear hx hok d0 d1 d3 d4 h1 h2 h3
      go_wp2_with fail
      go_roundg (n - (k + 1))
      case measure => have := HGK.out; omega
      case rel => exact ⟨k + 1, rfl, by omega, by rw [HNX.out], by go_num, rfl⟩
    · obtain rfl : k = n := by omega
      have HF := Lib.hid (show totR (l.take k) = totR l by rw [List.take_of_length_le (by rw [HN.out]; exact Nat.le_refl _)])
      rw [HF.out]
      go_wp2_with fail
      go_ret
      exact ⟨rfl, rfl⟩
end Go.Proofs.YtelindgnkpfkiaaGreatDoor
end

section
/-
  The document's coins: Put. Conditions: the entries lie in memory.
-/
namespace Go.Proofs.YtelindgnkpfkiaaGreatDoor
open Go.RowKit Go.BigFrame
set_option linter.unusedVariables false
set_option linter.unusedSimpArgs false

theorem RPutIs.no {base : Nat} {l : List PEn} {x : PEn} {w w' : World} {v : Value} {n : Int} (hn : rputE l x = n) (h0 : n ≠ 0) (h : EnsOwn base w v l) (hb : Below w.heap.size w w') : RPutIs base l x w (.returned (.tuple #[v, .int .i64 n])) w' := by
  unfold RPutIs rput
  rw [hn, if_neg h0]
  exact ⟨_, rfl, h.below hb, hb⟩
set_option maxRecDepth 100000 in
set_option maxHeartbeats 8000000 in
theorem rput10_any (base : Nat) (v : Value) (l : List PEn) (x : PEn) (w : World) (hbase : base ≤ w.heap.size) (hv : EnsOwn base w v l) (hg : ∀ y ∈ l, 0 ≤ y.val) (ht : totR l ≤ 2100000000000000) (hlen : l.length ≤ 1000) (hx : x.Ok) :
    Calls Tryz.prog 30 #[v, .agg #[.string x.id, .int .u32 x.idx], .agg #[.int .i64 x.val, .string x.script, .int .i64 x.ht]] w (RPutIs base l x w) := by
  have HV := Lib.hid hv
  have HXO := Lib.hid hx
  obtain ⟨a, c, rfl, hl1, hl2⟩ := ownsRow_shape hv.row
  rw [maxLen_eq] at hl2
  have HF0 := Lib.hid (fun y => cformed_any x.pt (enC x) y)
  have HGD := Lib.hid (fun z y => rgood_any z y)
  have HTO := Lib.hid (fun y (h : SlAt rpEn y (.slice a l.length c) l) => rtot10_any (.slice a l.length c) l y h hg ht)
  have HFI := Lib.hid (fun y (h : SlAt rpEn y (.slice a l.length c) l) => r10find_any (.slice a l.length c) l (x.id, x.idx) y h hx.idx)
  have HGT := Lib.hid (And.intro (show 0 ≤ totR l by have := totR_le hg l.length; rw [List.take_length] at this; exact this.1) ht)
  have HE := Lib.hid (show rputE l x = if formedC x.pt (enC x) = false then 2 else if (rfound l x.pt).isSome = true then 7 else if goodA (totR l + x.val) = false then 3 else 0 from rfl)
  have hform : formedC x.pt (enC x) = (decide (x.id.size = 32) && (decide (0 ≤ x.ht) && (decide (x.ht ≤ 1000000) && goodA x.val))) := rfl
  dsimp only at HFI
  obtain ⟨n, hn⟩ : ∃ n, n = l.length := ⟨_, rfl⟩
  rw [← hn] at hl1 hlen HV HTO HFI ⊢
  have HN := Lib.hid hn
  have HFM := Lib.hid hform
  clear hn hv hg ht hx hform HF0
  go_enter Tryz.func30, Tryz.ntmps30
  go_upto_region 1 with fail
  obtain ⟨X, hX⟩ : ∃ q, q = w.heap.size := ⟨_, rfl⟩
  have hnews := new2 w X hX (.cells #[.string x.id, .int .u32 x.idx] 46) (.cells #[.int .i64 x.val, .string x.script, .int .i64 x.ht] 50)
  rw [← hX]
  generalize ((w.alloc (.cells #[.string x.id, .int .u32 x.idx] 46)).alloc (.cells #[.int .i64 x.val, .string x.script, .int .i64 x.ht] 50)) = w0 at *
  obtain ⟨hz0, hz1, hal⟩ := hnews
  have HB0 := Lib.hid hal
  have HZ0 := Lib.hid hz0
  have HZ1 := Lib.hid hz1
  have p0 : w0.cell? ⟨X, 0, none⟩ = some (.string x.id) := cell_at hz0
  have p1 : w0.cell? ⟨X, 1, none⟩ = some (.int .u32 x.idx) := cell_at hz0
  have d0 : w0.cell? ⟨X + 1, 0, none⟩ = some (.int .i64 x.val) := cell_at hz1
  have d1 : w0.cell? ⟨X + 1, 1, none⟩ = some (.string x.script) := cell_at hz1
  have d2 : w0.cell? ⟨X + 1, 2, none⟩ = some (.int .i64 x.ht) := cell_at hz1
  clear hz0 hz1 hal hX
  obtain ⟨gv, hgv⟩ : ∃ q, q = goodA x.val := ⟨_, rfl⟩
  rw [← hgv] at HFM
  have HGV := Lib.hid hgv
  go_wp2_with fail
  refine (HGD.out x.val w0).mono ?_
  rintro e w1 ⟨rfl, rfl⟩
  rw [← hgv]
  clear hgv
  go_upto_region 2 with fail
  go_cut [36] (fun s wx => s = .bool (!formedC x.pt (enC x)) ∧ wx = w0)
  case first =>
    by_cases h1 : x.id.size = 32
    · have e1 : ((x.id.size : Int) == 32) = true := by rw [beq_iff_eq]; omega
      have e1' : ((x.id.size : Int) != 32) = false := by simp [h1]
      have HFM := Lib.hid (HFM.out.trans (by rw [decide_eq_true h1, Bool.true_and]))
      by_cases h2 : 0 ≤ x.ht
      · have e2 : decide (0 ≤ x.ht) = true := decide_eq_true h2
        rw [e2, Bool.true_and] at HFM
        by_cases h3 : x.ht ≤ 1000000
        · have e3 : decide (x.ht ≤ 1000000) = true := decide_eq_true h3
          rw [e3, Bool.true_and] at HFM
          have e2' : decide (x.ht < 0) = false := decide_eq_false (by omega)
          have e3' : decide (1000000 < x.ht) = false := decide_eq_false (by omega)
          clear h1
          go_wp2_with fail
          go_meet
          exact ⟨by rw [HFM.out], rfl⟩
        · have e3 : decide (x.ht ≤ 1000000) = false := decide_eq_false h3
          rw [e3, Bool.false_and] at HFM
          clear h1
          go_wp2_with fail
          go_meet
          exact ⟨by rw [HFM.out]; rfl, rfl⟩
      · have e2 : decide (0 ≤ x.ht) = false := decide_eq_false h2
        rw [e2, Bool.false_and] at HFM
        clear h1
        go_wp2_with fail
        go_meet
        exact ⟨by rw [HFM.out]; rfl, rfl⟩
    · have e1' : ((x.id.size : Int) != 32) = true := by rw [bne_iff_ne]; omega
      have HFM := Lib.hid (HFM.out.trans (by rw [decide_eq_false h1, Bool.false_and]))
      go_wp2_with fail
      go_meet
      exact ⟨by rw [HFM.out]; rfl, rfl⟩
  case rest =>
    rename World => wx
    obtain ⟨rfl, rfl⟩ := hcut
    by_cases hf : formedC x.pt (enC x) = true
    · rw [hf]
      have HE := Lib.hid (HE.out.trans (if_neg (by rw [hf]; decide)))
      have HFM := Lib.hid hf
      clear hf
      have HFI := Lib.hid (HFI.out wx (HV.out.below HB0.out).sl)
      unfold IdxP at HFI
      obtain ⟨fo, hfo⟩ : ∃ q, q = rfound l x.pt := ⟨_, rfl⟩
      have hfo2 : (l.findIdx? fun y => decide (y.pt = (x.id, x.idx))) = fo := hfo.symm
      rw [hfo2] at HFI
      rw [← hfo] at HE
      have HFO := Lib.hid hfo
      clear hfo hfo2
      go_wp2_with fail
      refine HFI.out.mono ?_
      rintro e w3 ⟨rfl, hb⟩
      have HB3 := Lib.hid (HB0.out.trans (hb.mono HB0.out.size))
      have HV3 := Lib.hid (HV.out.below HB3.out)
      have HZ0 := Lib.hid (stay HZ0.out hb)
      have HZ1 := Lib.hid (stay HZ1.out hb)
      clear hb HFI p0 p1 d0 d1 d2
      cases fo with
      | some q =>
        have HE := Lib.hid (HE.out.trans (if_pos rfl))
        have hq : decide ((0 : Int) ≤ (q : Int)) = true := decide_eq_true (by omega)
        unfold idxV
        dsimp only
        go_wp2_with fail
        go_ret2
        exact RPutIs.no HE.out (by decide) HV.out HB3.out
      | none =>
        have HE := Lib.hid (HE.out.trans (if_neg (by decide)))
        unfold idxV
        dsimp only
        have HTO := Lib.hid (HTO.out w3 HV3.out.sl)
        have d0 : w3.cell? ⟨X + 1, 0, none⟩ = some (.int .i64 x.val) := cell_at HZ1.out
        have hgx : 0 ≤ x.val ∧ x.val ≤ 2100000000000000 := (goodA_iff _).1 (by
          have := HFM.out
          unfold formedC at this
          simp only [Bool.and_eq_true] at this
          exact this.2.2.2)
        have hgt := HGT.out
        obtain ⟨tt, htt⟩ : ∃ q, q = totR l := ⟨_, rfl⟩
        rw [← htt] at HTO HE hgt
        have hws : IntKind.i64.wrap (tt + x.val) = tt + x.val := by rw [IntKind.wrap_i64]; omega
        have HTT := Lib.hid htt
        clear htt hgt hgx
        go_wp2_with fail
        refine HTO.out.mono ?_
        rintro e w4 ⟨rfl, rfl⟩
        go_wp2_with fail
        refine (HGD.out (tt + x.val) w3).mono ?_
        rintro e w4 ⟨rfl, rfl⟩
        clear hws d0 HTO
        obtain ⟨gs, hgs⟩ : ∃ q, q = goodA (tt + x.val) := ⟨_, rfl⟩
        rw [← hgs] at HE ⊢
        clear hgs
        cases gs
        · have HE := Lib.hid (HE.out.trans (if_pos rfl))
          go_wp2_with fail
          go_ret2
          exact RPutIs.no HE.out (by decide) HV.out HB3.out
        · have HE := Lib.hid (HE.out.trans (if_neg (by decide)))
          have HLS := Lib.hid (fun y z => rless_any x.pt z y)
          unfold PEn.pt at HLS
          dsimp only at HLS
          go_wp2_with fail
          go_loopg [11, 12, 13] n (fun g r d i wr => ∃ (k : Nat) (r0 : Value), r = r0 ∧ g = n - k ∧ k ≤ n ∧ d = .bool (insF x (l.take k)).2 ∧ i = .int .i64 k ∧ Below w3.heap.size w3 wr ∧ EnsOwn w3.heap.size wr r0 (insF x (l.take k)).1)
          case atStart => exact ⟨0, _, rfl, rfl, by omega, rfl, rfl, Below.refl _ _, ensOwn_nil _ _⟩
          case round =>
            rename World => wo
            obtain ⟨k, r0, hr0, hgk, hk, rfl, rfl, hb, hown⟩ := hrel
            obtain rfl := hr0.symm
            have HGK := Lib.hid hgk
            have HB := Lib.hid hb
            have HOW := Lib.hid hown
            have hz0 := stay HZ0.out hb
            have hz1 := stay HZ1.out hb
            have HZA := Lib.hid hz0
            have HZB := Lib.hid hz1
            have hle := insF_len x (l.take k)
            have hsl : (insF x (l.take k)).1.length ≤ k + 1 := by rw [hle, List.length_take]; have := Bool.toNat_le (insF x (l.take k)).2; omega
            clear hgk hb hown hle
            by_cases hlt : k < n
            · obtain ⟨b, o, y, rfl, hy, hyo, c0, c1, c2, c3, c4⟩ := (HV3.out.sl.below HB.out).en hlt
              have HST := Lib.hid (insF_step (x := x) hy)
              have HYO := Lib.hid hyo
              have HY := Lib.hid hy
              have p0 : wo.cell? ⟨X, 0, none⟩ = some (.string x.id) := cell_at hz0
              have p1 : wo.cell? ⟨X, 1, none⟩ = some (.int .u32 x.idx) := cell_at hz0
              obtain ⟨lt, hlt2⟩ : ∃ q, q = lessPt x.pt y.pt := ⟨_, rfl⟩
              have HLT := Lib.hid hlt2
              have HLQ := Lib.hid (fun w => HLS.out w y.pt)
              unfold PEn.pt at HLQ
              dsimp only at HLQ
              rw [show lessPt (x.id, x.idx) (y.id, y.idx) = lt from hlt2.symm] at HLQ
              obtain ⟨si, hsi⟩ : ∃ q, q = insF x (l.take k) := ⟨_, rfl⟩
              rw [← hsi] at HOW HST hsl ⊢
              obtain ⟨s1, dn⟩ := si
              dsimp only at HOW hsl ⊢
              clear hy hyo hz0 hz1 hlt2 hsi
              go_upto_region 16 with fail
              obtain ⟨C, hC⟩ : ∃ C : World → Prop, C = fun w' => Below wo.heap.size wo w' := ⟨_, rfl⟩
              have kp0 := kin_cell hC p0
              have kp1 := kin_cell hC p1
              have kc0 := kin_cell hC c0
              have kc1 := kin_cell hC c1
              have kc2 := kin_cell hC c2
              have kc3 := kin_cell hC c3
              have kc4 := kin_cell hC c4
              have QL := Lib.hid (kin_call hC fun y h => HLQ.out y)
              have HC := Lib.hid hC
              clear hC
              refine wp_region_kin C (by kernel_rfl) (by kernel_rfl) (by rw [HC.out]; exact ⟨rfl, rfl, rfl, Nat.le_refl _, fun _ _ => rfl⟩) ?_
              intro hne
              repeat (first | (go_big_quiet_step ((rename_i y; go_at_call 64; exact Calls.kin (QL.out y) (fun w' h => h)))) | (quiet_step ((rename_i y; go_at_call 64; exact Calls.kin (QL.out y) (fun w' h => h)))))
              refine wpQuiet_nil ?_
              intro _ hw'
              obtain ⟨kx, hw''⟩ := hw'
              subst hw''
              obtain ⟨w5, hxc⟩ := kx
              rw [HC.out] at hxc
              clear HC hne kp0 kp1 kc0 kc1 kc2 kc3 kc4
              have HB5 := Lib.hid (HB.out.trans (hxc.mono HB.out.size))
              have HO5 := Lib.hid (HOW.out.below hxc)
              have hz0 := stay HZA.out hxc
              have hz1 := stay HZB.out hxc
              replace c0 := below_cells hxc _ _ c0
              replace c1 := below_cells hxc _ _ c1
              replace c2 := below_cells hxc _ _ c2
              replace c3 := below_cells hxc _ _ c3
              replace c4 := below_cells hxc _ _ c4
              have e0 : w5.cell? ⟨X, 0, none⟩ = some (.string x.id) := cell_at hz0
              have e1 : w5.cell? ⟨X, 1, none⟩ = some (.int .u32 x.idx) := cell_at hz0
              have f0 : w5.cell? ⟨X + 1, 0, none⟩ = some (.int .i64 x.val) := cell_at hz1
              have f1 : w5.cell? ⟨X + 1, 1, none⟩ = some (.string x.script) := cell_at hz1
              have f2 : w5.cell? ⟨X + 1, 2, none⟩ = some (.int .i64 x.ht) := cell_at hz1
              have HYAT := Lib.hid (And.intro c0 (And.intro c1 (And.intro c2 (And.intro c3 c4))))
              obtain ⟨aO, cO, hrO, -, -⟩ := ownsRow_shape HO5.out.row
              subst hrO
              clear hxc hz0 hz1 p0 p1
              by_cases hins : (lt && !dn) = true
              · obtain ⟨rfl, rfl⟩ : lt = true ∧ dn = false := by simpa using hins
                have HST := Lib.hid (HST.out.trans (insS_yes HLT.out.symm))
                obtain ⟨i0, hi, hz0, hz1, hz2⟩ := info_parts info_en
                obtain ⟨aN6, cN6, w6, hrun, hownN, hbN, -, -⟩ := append_one (P := Tryz.prog) Tryz.underlying30 hi hz0 hz1 hz2 rfl HO5.out.row #[.string x.id, .int .u32 x.idx, .int .i64 x.val, .string x.script, .int .i64 x.ht] rfl (by simp [Value.oneCell']) (by rw [maxLen_eq]; omega) (by omega) HB5.out.size (ty := 30)
                have HR6 := Lib.hid hrun
                have HOWN6 := Lib.hid hownN
                have HBN6 := Lib.hid (HB5.out.trans hbN)
                clear hi hz0 hz1 hz2 hrun hownN hbN i0
                have hl2 : (s1 ++ [x]).length ≤ k + 2 := by rw [List.length_append, List.length_singleton]; omega
                have HO6 := Lib.hid (EnsOwn.snoc HO5.out.ok HXO.out (w' := w6) HOWN6.out)
                obtain ⟨b', o', y', hbo, hy', -, g0, g1, g2, g3, g4⟩ := (HV3.out.sl.below HBN6.out).en hlt
                obtain ⟨rfl, rfl⟩ : b = b' ∧ o = o' := by simpa using hbo
                rw [HY.out] at hy'
                obtain rfl := Option.some.inj hy'
                have hll : (s1 ++ [x]).length = s1.length + 1 := by simp
                obtain ⟨i0, hi, hz0, hz1, hz2⟩ := info_parts info_en
                obtain ⟨aN7, cN7, w7, hrun, hownN, hbN, -, -⟩ := append_one (P := Tryz.prog) Tryz.underlying30 hi hz0 hz1 hz2 rfl HO6.out.row #[.string y.id, .int .u32 y.idx, .int .i64 y.val, .string y.script, .int .i64 y.ht] rfl (by simp [Value.oneCell']) (by rw [maxLen_eq]; omega) (by omega) HBN6.out.size (ty := 30)
                have HR7 := Lib.hid hrun
                have HOWN7 := Lib.hid hownN
                have HBN7 := Lib.hid (HBN6.out.trans hbN)
                clear hi hz0 hz1 hz2 hrun hownN hbN i0
                rw [hll] at HR7
                have HO7 := Lib.hid (EnsOwn.snoc HO6.out.ok HYO.out (w' := w7) HOWN7.out)
                rw [hll] at HOWN7
                clear c0 c1 c2 c3 c4 hbo hy' hll hl2
                go_wp2_with (first | (at_builtin; refine wpList_append_run rfl (.tmp 73) (.tmp 77) 30 30 rfl rfl rfl HR6.out ?_) | (at_builtin; refine wpList_append_run rfl (.tmp 79) (.tmp 84) 30 30 rfl rfl rfl HR7.out ?_))
                go_roundg (n - (k + 1))
                case measure => have := HGK.out; omega
                case rel => exact ⟨k + 1, _, rfl, rfl, by omega, by rw [HST.out], by go_num, HBN7.out, by rw [HST.out]; have := HO7.out; simpa using this⟩
              · have hins' : (lt && !dn) = false := by simpa using hins
                have HST := Lib.hid (HST.out.trans (insS_no (by rw [← HLT.out]; exact hins')))
                obtain ⟨i0, hi, hz0, hz1, hz2⟩ := info_parts info_en
                obtain ⟨aN6, cN6, w6, hrun, hownN, hbN, -, -⟩ := append_one (P := Tryz.prog) Tryz.underlying30 hi hz0 hz1 hz2 rfl HO5.out.row #[.string y.id, .int .u32 y.idx, .int .i64 y.val, .string y.script, .int .i64 y.ht] rfl (by simp [Value.oneCell']) (by rw [maxLen_eq]; omega) (by omega) HB5.out.size (ty := 30)
                have HR6 := Lib.hid hrun
                have HOWN6 := Lib.hid hownN
                have HBN6 := Lib.hid (HB5.out.trans hbN)
                clear hi hz0 hz1 hz2 hrun hownN hbN i0
                have HO6 := Lib.hid (EnsOwn.snoc HO5.out.ok HYO.out (w' := w6) HOWN6.out)
                cases lt
                · go_wp2_with (at_builtin; refine wpList_append_run rfl (.tmp 79) (.tmp 84) 30 30 rfl rfl rfl HR6.out ?_)
                  go_roundg (n - (k + 1))
                  case measure => have := HGK.out; omega
                  case rel => exact ⟨k + 1, _, rfl, rfl, by omega, by rw [HST.out], by go_num, HBN6.out, by rw [HST.out]; have := HO6.out; simpa using this⟩
                · obtain rfl : dn = true := by simpa using hins'
                  go_wp2_with (at_builtin; refine wpList_append_run rfl (.tmp 79) (.tmp 84) 30 30 rfl rfl rfl HR6.out ?_)
                  go_roundg (n - (k + 1))
                  case measure => have := HGK.out; omega
                  case rel => exact ⟨k + 1, _, rfl, rfl, by omega, by rw [HST.out], by go_num, HBN6.out, by rw [HST.out]; have := HO6.out; simpa using this⟩
            · obtain rfl : k = n := by omega
              have htk : l.take k = l := List.take_of_length_le (by rw [HN.out]; exact Nat.le_refl _)
              rw [htk] at HOW hsl ⊢
              have HRP := Lib.hid (show rputL x l = bif (insF x l).2 then (insF x l).1 else (insF x l).1 ++ [x] from rfl)
              obtain ⟨si, hsi⟩ : ∃ q, q = insF x l := ⟨_, rfl⟩
              rw [← hsi] at HOW hsl HRP ⊢
              obtain ⟨s1, dn⟩ := si
              dsimp only at HOW hsl HRP ⊢
              have HB5 := HB
              have HRT := Lib.hid (show ∀ (w' : World) (v : Value), EnsOwn base w' v (rputL x l) → Below w.heap.size w w' → RPutIs base l x w (.returned (.tuple #[v, .int .i64 0])) w' from fun w' v h1 h2 => by
                unfold RPutIs rput
                rw [HE.out, if_pos rfl]
                exact ⟨_, rfl, h1, h2⟩)
              have HBT := Lib.hid (Nat.le_trans hbase HB3.out.size)
              have HSZ := Lib.hid HB3.out.size
              have f0 : wo.cell? ⟨X + 1, 0, none⟩ = some (.int .i64 x.val) := cell_at hz1
              have f1 : wo.cell? ⟨X + 1, 1, none⟩ = some (.string x.script) := cell_at hz1
              have f2 : wo.cell? ⟨X + 1, 2, none⟩ = some (.int .i64 x.ht) := cell_at hz1
              have e0 : wo.cell? ⟨X, 0, none⟩ = some (.string x.id) := cell_at hz0
              have e1 : wo.cell? ⟨X, 1, none⟩ = some (.int .u32 x.idx) := cell_at hz0
              obtain ⟨aO, cO, hrO, -, -⟩ := ownsRow_shape HOW.out.row
              subst hrO
              clear hsi htk hz0 hz1
              cases dn
              · have HRP := Lib.hid (HRP.out.trans rfl : rputL x l = s1 ++ [x])
                obtain ⟨i0, hi, hz0, hz1, hz2⟩ := info_parts info_en
                obtain ⟨aN6, cN6, w6, hrun, hownN, hbN, -, -⟩ := append_one (P := Tryz.prog) Tryz.underlying30 hi hz0 hz1 hz2 rfl HOW.out.row #[.string x.id, .int .u32 x.idx, .int .i64 x.val, .string x.script, .int .i64 x.ht] rfl (by simp [Value.oneCell']) (by rw [maxLen_eq]; omega) (by omega) HB.out.size (ty := 30)
                have HR6 := Lib.hid hrun
                have HOWN6 := Lib.hid hownN
                have HBN6 := Lib.hid (HB.out.trans hbN)
                clear hi hz0 hz1 hz2 hrun hownN hbN i0
                have HO6 := Lib.hid (EnsOwn.snoc HOW.out.ok HXO.out (w' := w6) HOWN6.out)
                go_wp2_with (at_builtin; refine wpList_append_run rfl (.tmp 88) (.tmp 92) 30 30 rfl rfl rfl HR6.out ?_)
                go_ret2
                refine HRT.out w6 _ ?_ (HB3.out.trans (HBN6.out.mono HSZ.out))
                rw [HRP.out]
                have := (HO6.out).base HBT.out
                simpa using this
              · have HRP := Lib.hid (HRP.out.trans rfl : rputL x l = s1)
                go_wp2_with fail
                go_ret2
                refine HRT.out wo _ ?_ (HB3.out.trans (HB.out.mono HSZ.out))
                rw [HRP.out]
                exact HOW.out.base HBT.out
    · have hf' : formedC x.pt (enC x) = false := by simpa using hf
      have HE := Lib.hid (HE.out.trans (if_pos hf'))
      rw [hf']
      clear hf hf'
      go_wp2_with fail
      go_ret2
      exact RPutIs.no HE.out (by decide) HV.out HB0.out
end Go.Proofs.YtelindgnkpfkiaaGreatDoor
end
