/-
  kedgelaw23.same: has a reserve just these leases? Conditions: both lie in memory.
-/
import Derived.Test.YtelindgnkpfkiaaVy
import Derived.Test.YtelindgnkpfkiaaVq
namespace Go.Proofs.Ytelindgnkpfkiaa
open Go.RowKit Go.BigFrame Go.Maps
set_option linter.unusedVariables false
set_option linter.unusedSimpArgs false

set_option maxRecDepth 100000 in
set_option maxHeartbeats 4000000 in
theorem same23_any {cn : Nat} (b m : Nat) (script : ByteArray) (M : Int → Option Pt) (L : PLs) (tag : Nat) (sv : Value) (w : World) (hr : RsM w b m script M cn) (hcn : cn < 1000000) (hL : AgrL L M) (hsv : SlAt rpLs w sv L) :
    Calls Try.prog 23 #[.pointer (some ⟨b, 0, none⟩), .agg #[.int .u16 tag, sv]] w (BIs true w) := by
  have HRM := Lib.hid hr
  have HSV := Lib.hid hsv
  have HCN := Lib.hid hcn
  have HL := Lib.hid hL
  obtain ⟨a, c, rfl, hl1, hl2⟩ := hsv.shape
  rw [maxLen_eq] at hl2
  clear hr hsv hcn hL
  obtain ⟨ll, hll⟩ : ∃ q, q = L.length := ⟨_, rfl⟩
  rw [← hll] at hl1 HSV ⊢
  have HLL := Lib.hid hll
  clear hll
  go_enter Try.func23, Try.ntmps23
  go_upto_region 1 with fail
  have hz := heap_alloc_new w (.cells #[.int .u16 tag, .slice a ll c] 61)
  have hal : Below w.heap.size w (w.alloc (.cells #[.int .u16 tag, .slice a ll c] 61)) := (Below.refl _ _).alloc (Nat.le_refl _) _
  obtain ⟨X, hX⟩ : ∃ q, q = w.heap.size := ⟨_, rfl⟩
  rw [← hX] at hz ⊢
  generalize w.alloc (.cells #[.int .u16 tag, .slice a ll c] 61) = w0 at *
  have HB := Lib.hid hal
  have HZ := Lib.hid hz
  clear hz hal hX
  go_wp2_with fail
  refine (keys_any b m script M L w0 (HRM.out.below HB.out) HCN.out HL.out).mono ?_
  rintro e w1 ⟨v5, rfl, hrow, hxc⟩
  rw [← HLL.out] at hrow
  have HB := Lib.hid (HB.out.trans (hxc.mono HB.out.size))
  have HZ := Lib.hid (stay HZ.out hxc)
  obtain ⟨ka, kc, rfl, hkc1, hkc2⟩ := ownsRow_shape hrow
  rw [maxLen_eq] at hkc2
  have HROW := Lib.hid hrow
  clear hrow hxc
  have c1 : w1.cell? ⟨X, 1, none⟩ = some (.slice a ll c) := cell_at HZ.out
  go_wp2_with fail
  go_loopg [20] ll (fun g i wr => ∃ (j : Nat), g = ll - j ∧ j ≤ ll ∧ i = .int .i64 j ∧ Below w.heap.size w wr ∧ wr.heap[X]? = some (.cells #[.int .u16 tag, .slice a ll c] 61 (0, 0)) ∧ wr.ownsRow w0.heap.size 3 1 (.slice ka ll kc) ll ((L.map (·.1)).map encZ))
  case atStart => exact ⟨0, rfl, by omega, rfl, HB.out, HZ.out, HROW.out⟩
  case round =>
    clear HB HZ HROW c1
    rename World => wq
    obtain ⟨j, hgj, hj, rfl, hb, hz, hrow⟩ := hrel
    have HGJ := Lib.hid hgj
    have HB := Lib.hid hb
    have HZ := Lib.hid hz
    have HROW := Lib.hid hrow
    clear hgj hb hz hrow
    by_cases hjl : j < ll
    · obtain ⟨kb, rfl, hkb1, -⟩ := ownsRow_some HROW.out (by omega)
      obtain ⟨sb, so, e, rfl, he, hok, d0, d1, d2⟩ := (HSV.out.below HB.out).ls hjl
      have k0 : wq.cell? ⟨kb, j, none⟩ = some (.int .i64 e.1) := by
        have h1 := HROW.out.cells (g := kb) rfl j (.int .i64 e.1) (by rw [List.getElem?_map, List.getElem?_map, he]; rfl)
        rw [Addr.add_lit] at h1
        simpa using h1
      have HE := Lib.hid ((HL.out.iff e.1 e.2).2 (List.mem_of_getElem? he))
      have HKW := Lib.hid (show (Lit.int .i64 e.1).wf = true from wf_i64_of hok.key)
      clear he hok hkb1
      go_wp2_with fail
      refine (leased_any b m script M e.1 wq (HRM.out.below HB.out) HKW.out).mono ?_
      rw [HE.out]
      rintro e' w14 ⟨rfl, hxc⟩
      have HB := Lib.hid (HB.out.trans (hxc.mono HB.out.size))
      have HZ := Lib.hid (stay HZ.out hxc)
      have HROW := Lib.hid (ownsRow_below HROW.out hxc)
      replace d0 := below_cells hxc _ _ d0
      replace d1 := below_cells hxc _ _ d1
      replace d2 := below_cells hxc _ _ d2
      clear hxc k0
      simp only [Option.getD_some, Option.isSome_some]
      go_upto_region 8 with fail
      have hz := heap_alloc_new w14 (.cells #[.string e.2.1, .int .u32 e.2.2] 35)
      have hal : Below w14.heap.size w14 (w14.alloc (.cells #[.string e.2.1, .int .u32 e.2.2] 35)) := (Below.refl _ _).alloc (Nat.le_refl _) _
      obtain ⟨P, hP⟩ : ∃ q, q = w14.heap.size := ⟨_, rfl⟩
      rw [← hP] at hz ⊢
      generalize w14.alloc (.cells #[.string e.2.1, .int .u32 e.2.2] 35) = w15 at *
      have HB := Lib.hid (HB.out.trans (hal.mono HB.out.size))
      have HZ := Lib.hid (stay HZ.out hal)
      have HROW := Lib.hid (ownsRow_below HROW.out hal)
      replace d0 := below_cells hal _ _ d0
      replace d1 := below_cells hal _ _ d1
      replace d2 := below_cells hal _ _ d2
      have p0 : w15.cell? ⟨P, 0, none⟩ = some (.string e.2.1) := cell_at hz
      have p1 : w15.cell? ⟨P, 1, none⟩ = some (.int .u32 e.2.2) := cell_at hz
      have c1 : w15.cell? ⟨X, 1, none⟩ = some (.slice (some ⟨sb, so, none⟩) ll c) := cell_at HZ.out
      have heq : ∀ w : World, (Op.equalIn 10000 35 (.agg #[.string e.2.1, .int .u32 e.2.2]) (.agg #[.string e.2.1, .int .u32 e.2.2])).run Try.prog w = .ok true w := fun w => by
        have h1 := eqIn_pt e.2 e.2 w
        rw [decide_eq_true rfl] at h1
        exact h1
      clear hz hal hP
      obtain ⟨C, hC⟩ : ∃ C : World → Prop, C = fun w' => Below w15.heap.size w15 w' := ⟨_, rfl⟩
      have kp0 := kin_cell hC p0
      have kp1 := kin_cell hC p1
      have kc1 := kin_cell hC c1
      have kd0 := kin_cell hC d0
      have kd1 := kin_cell hC d1
      have kd2 := kin_cell hC d2
      have HC := Lib.hid hC
      clear hC
      refine wp_region_kin C (by kernel_rfl) (by kernel_rfl) (by rw [HC.out]; exact ⟨rfl, rfl, rfl, Nat.le_refl _, fun _ _ => rfl⟩) ?_
      intro hne
      repeat (first | (go_big_quiet_step (fail)) | (quiet_step (fail)))
      refine wpQuiet_nil ?_
      intro _ hw'
      obtain ⟨kx, hw''⟩ := hw'
      subst hw''
      obtain ⟨w16, hxc⟩ := kx
      rw [HC.out] at hxc
      clear HC hne kp0 kp1 kc1 kd0 kd1 kd2
      have HB := Lib.hid (HB.out.trans (hxc.mono HB.out.size))
      have HZ := Lib.hid (stay HZ.out hxc)
      have HROW := Lib.hid (ownsRow_below HROW.out hxc)
      clear hxc p0 p1 c1 d0 d1 d2 heq
      go_wp2_with fail
      go_roundg (ll - (j + 1))
      case measure => have := HGJ.out; omega
      case rel => exact ⟨j + 1, rfl, by omega, by go_num, HB.out, HZ.out, HROW.out⟩
    · obtain rfl : j = ll := by omega
      go_wp2_with fail
      go_ret
      exact ⟨rfl, HB.out⟩
end Go.Proofs.Ytelindgnkpfkiaa
