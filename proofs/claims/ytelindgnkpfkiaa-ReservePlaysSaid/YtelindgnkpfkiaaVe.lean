/-
  Reserves: which coin is chosen. Conditions: the reserve lies in memory, the coins do.
-/
import Derived.Test.YtelindgnkpfkiaaVd
import Derived.Test.YtelindgnkpfkiaaReg
namespace Go.Proofs.Ytelindgnkpfkiaa
open Go.RowKit Go.BigFrame Go.Maps
set_option linter.unusedVariables false
set_option linter.unusedSimpArgs false

theorem vbytes_ne {a b : ByteArray} (h : a ≠ b) : (a.toList == b.toList) = false := by
  rw [ByteArray.toList_eq, ByteArray.toList_eq, beq_eq_false_iff_ne]
  intro h'
  apply h
  cases a; cases b
  simp at h'
  rw [h']
/-- Five cells of a block, each stored. -/
theorem five_cells {w : World} {X : Nat} {u0 u1 u2 u3 u4 : Value} {t : TypeId} (h : w.heap[X]? = some (.cells #[u0, u1, u2, u3, u4] t (0, 0))) (v0 v1 v2 v3 v4 : Value) :
    (((((w.setCell ⟨X, 0, none⟩ v0).setCell ⟨X, 1, none⟩ v1).setCell ⟨X, 2, none⟩ v2).setCell ⟨X, 3, none⟩ v3).setCell ⟨X, 4, none⟩ v4).heap[X]? = some (.cells #[v0, v1, v2, v3, v4] t (0, 0)) ∧
    (∀ b, b ≠ X → (((((w.setCell ⟨X, 0, none⟩ v0).setCell ⟨X, 1, none⟩ v1).setCell ⟨X, 2, none⟩ v2).setCell ⟨X, 3, none⟩ v3).setCell ⟨X, 4, none⟩ v4).heap[b]? = w.heap[b]?) ∧
    (∀ B, B ≤ X → Below B w (((((w.setCell ⟨X, 0, none⟩ v0).setCell ⟨X, 1, none⟩ v1).setCell ⟨X, 2, none⟩ v2).setCell ⟨X, 3, none⟩ v3).setCell ⟨X, 4, none⟩ v4)) := by
  have q1 := heap_setCell_at (j := 0) (u := v0) h
  have q2 := heap_setCell_at (j := 1) (u := v1) q1
  have q3 := heap_setCell_at (j := 2) (u := v2) q2
  have q4 := heap_setCell_at (j := 3) (u := v3) q3
  have q5 := heap_setCell_at (j := 4) (u := v4) q4
  refine ⟨q5, fun b hb => ?_, fun B hB => ?_⟩
  · rw [Below.heap_setCell _ _ _ _ hb, Below.heap_setCell _ _ _ _ hb, Below.heap_setCell _ _ _ _ hb, Below.heap_setCell _ _ _ _ hb, Below.heap_setCell _ _ _ _ hb]
  · exact (((((Below.refl B w).setCell (p := ⟨X, 0, none⟩) hB _).setCell (p := ⟨X, 1, none⟩) hB _).setCell (p := ⟨X, 2, none⟩) hB _).setCell (p := ⟨X, 3, none⟩) hB _).setCell (p := ⟨X, 4, none⟩) hB _
def zEn : PEn := ⟨⟨#[]⟩, 0, 0, ⟨#[]⟩, 0⟩
def pickP (r : Option PEn) : Value := .tuple #[.agg (enC (r.getD zEn)), .bool r.isSome]
theorem enC_def (x : PEn) : enC x = #[.string x.id, .int .u32 x.idx, .int .i64 x.val, .string x.script, .int .i64 x.ht] := rfl
theorem fits_no1 {script : ByteArray} {need : Int} {taken : Pt → Bool} {x : PEn} (h : x.script ≠ script) : fitsB script need taken x = false := by
  unfold fitsB; rw [decide_eq_false h]; rfl
theorem fits_no2 {script : ByteArray} {need : Int} {taken : Pt → Bool} {x : PEn} (h : x.val < need) : fitsB script need taken x = false := by
  unfold fitsB; rw [decide_eq_false (p := need ≤ x.val) (by omega)]; simp
theorem fits_no3 {script : ByteArray} {need : Int} {taken : Pt → Bool} {x : PEn} (h : taken x.pt = true) : fitsB script need taken x = false := by
  unfold fitsB; rw [h]; simp
theorem fits_yes {script : ByteArray} {need : Int} {taken : Pt → Bool} {x : PEn} (h1 : x.script = script) (h2 : ¬ x.val < need) (h3 : taken x.pt = false) : fitsB script need taken x = true := by
  unfold fitsB; rw [decide_eq_true h1, decide_eq_true (p := need ≤ x.val) (by omega), h3]; rfl
theorem fold_next {script : ByteArray} {need : Int} {taken : Pt → Bool} {l : List PEn} {k : Nat} {x : PEn} (hx : l[k]? = some x) :
    (l.take (k + 1)).foldl (pickB script need taken) none = pickB script need taken ((l.take k).foldl (pickB script need taken) none) x := by
  obtain ⟨hk, rfl⟩ := List.getElem?_eq_some_iff.1 hx
  rw [List.take_succ_eq_append_getElem hk, List.foldl_append]
  rfl
theorem fold_skip {script : ByteArray} {need : Int} {taken : Pt → Bool} {l : List PEn} {k : Nat} {x : PEn} {acc : Option PEn} (ha : (l.take k).foldl (pickB script need taken) none = acc) (hx : l[k]? = some x) (hf : fitsB script need taken x = false) :
    (l.take (k + 1)).foldl (pickB script need taken) none = acc := by
  rw [fold_next hx, ha]
  unfold pickB
  rw [hf]
  rfl
theorem fold_take {script : ByteArray} {need : Int} {taken : Pt → Bool} {l : List PEn} {k : Nat} {x : PEn} {acc : Option PEn} (ha : (l.take k).foldl (pickB script need taken) none = acc) (hx : l[k]? = some x) (hf : fitsB script need taken x = true) :
    (l.take (k + 1)).foldl (pickB script need taken) none = upB acc x := by
  rw [fold_next hx, ha]
  unfold pickB
  rw [hf]
  rfl
set_option maxRecDepth 100000 in
set_option maxHeartbeats 4000000 in
theorem choose_any {cn : Nat} (b m : Nat) (script : ByteArray) (M : Int → Option Pt) (need : Int) (sl : Value) (l : List PEn) (w : World) (hr : RsM w b m script M cn) (hsl : SlAt rpEn w sl l) : Calls Try.prog 28 #[.pointer (some ⟨b, 0, none⟩), .int .i64 need, sl] w (fun e w' => e = .returned (pickP (chooseL script need (takenB M) l)) ∧ Below w.heap.size w w') := by
  obtain ⟨R, hR⟩ : ∃ R, R = chooseL script need (takenB M) l := ⟨_, rfl⟩
  rw [← hR]
  have HRES := Lib.hid hR
  clear hR
  have HRM := Lib.hid hr
  have HSL := Lib.hid hsl
  obtain ⟨a, c, rfl, hl1, hl2⟩ := hsl.shape
  rw [maxLen_eq] at hl2
  obtain ⟨n, hn⟩ : ∃ n, n = l.length := ⟨_, rfl⟩
  rw [← hn] at hl1 HSL ⊢
  have HN := Lib.hid hn
  clear hn hsl hr
  go_enter Try.func28, Try.ntmps28
  go_upto_region 2 with fail
  obtain ⟨X, hX⟩ : ∃ q, q = w.heap.size := ⟨_, rfl⟩
  have hnews := new2 w X hX (.cells #[.string ⟨#[]⟩, .int .u32 0, .int .i64 0, .string ⟨#[]⟩, .int .i64 0] 41) (.cells #[.string ⟨#[]⟩, .int .u32 0, .int .i64 0, .string ⟨#[]⟩, .int .i64 0] 41)
  rw [← hX]
  generalize ((w.alloc (.cells #[.string ⟨#[]⟩, .int .u32 0, .int .i64 0, .string ⟨#[]⟩, .int .i64 0] 41)).alloc (.cells #[.string ⟨#[]⟩, .int .u32 0, .int .i64 0, .string ⟨#[]⟩, .int .i64 0] 41)) = w0 at *
  obtain ⟨hz0, hz1, hal⟩ := hnews
  have HB0 := Lib.hid hal
  have HXB := Lib.hid (show b < X by rw [hX]; exact lt_of HRM.out.box)
  have HZ0 := Lib.hid hz0
  have HZ1 := Lib.hid hz1
  have HXW := Lib.hid hX
  clear hz0 hz1 hal hX
  go_wp2_with fail
  go_loopg [9, 14] n (fun g ok i wr => ∃ (k : Nat) (acc : Option PEn), g = n - k ∧ k ≤ n ∧ ok = .bool acc.isSome ∧ i = .int .i64 k ∧ Below w.heap.size w wr ∧ (l.take k).foldl (pickB script need (takenB M)) none = acc ∧
      wr.heap[X]? = some (.cells #[.string ⟨#[]⟩, .int .u32 0, .int .i64 0, .string ⟨#[]⟩, .int .i64 0] 41 (0, 0)) ∧
      wr.heap[X + 1]? = some (.cells (enC (acc.getD zEn)) 41 (0, 0)))
  case atStart => exact ⟨0, none, rfl, by omega, rfl, rfl, HB0.out, rfl, HZ0.out, HZ1.out⟩
  case round =>
    clear HB0 HZ0 HZ1
    rename World => wo
    obtain ⟨k, acc, hgk, hk, rfl, rfl, hb, hacc, hz0, hz1⟩ := hrel
    have HGK := Lib.hid hgk
    have HB := Lib.hid hb
    have HACC := Lib.hid hacc
    have HZ0 := Lib.hid hz0
    have HZ1 := Lib.hid hz1
    have HYZ := Lib.hid (enC_def (acc.getD zEn))
    unfold enC at hz1
    obtain ⟨ym, hym⟩ : ∃ ym, ym = acc.getD zEn := ⟨_, rfl⟩
    rw [← hym] at hz1 HZ1 HYZ
    have HYM := Lib.hid hym
    clear hym
    have y0 : wo.cell? ⟨X + 1, 0, none⟩ = some (.string ym.id) := cell_at hz1
    have y1 : wo.cell? ⟨X + 1, 1, none⟩ = some (.int .u32 ym.idx) := cell_at hz1
    have y2 : wo.cell? ⟨X + 1, 2, none⟩ = some (.int .i64 ym.val) := cell_at hz1
    have y3 : wo.cell? ⟨X + 1, 3, none⟩ = some (.string ym.script) := cell_at hz1
    have y4 : wo.cell? ⟨X + 1, 4, none⟩ = some (.int .i64 ym.ht) := cell_at hz1
    clear hgk hb hacc hz0 hz1
    by_cases hlt : k < n
    · obtain ⟨sb, so, x, rfl, hx, hxo, d0, d1, d2, d3, d4⟩ := (HSL.out.below HB.out).en hlt
      have HX := Lib.hid hx
      have hv1 := hxo.val
      clear hx hxo
      go_upto_region 6 with fail
      have hz := heap_alloc_new wo (.cells #[.string x.id, .int .u32 x.idx, .int .i64 x.val, .string x.script, .int .i64 x.ht] 41)
      have hal : Below wo.heap.size wo (wo.alloc (.cells #[.string x.id, .int .u32 x.idx, .int .i64 x.val, .string x.script, .int .i64 x.ht] 41)) := (Below.refl _ _).alloc (Nat.le_refl _) _
      obtain ⟨Y, hY⟩ : ∃ q, q = wo.heap.size := ⟨_, rfl⟩
      rw [← hY] at hz ⊢
      generalize wo.alloc (.cells #[.string x.id, .int .u32 x.idx, .int .i64 x.val, .string x.script, .int .i64 x.ht] 41) = w1 at *
      have HB1 := Lib.hid (HB.out.trans (hal.mono HB.out.size))
      have HRM1 := Lib.hid (HRM.out.below HB1.out)
      have HZ0 := Lib.hid (stay HZ0.out hal)
      have HZ1 := Lib.hid (stay HZ1.out hal)
      replace y0 := below_cells hal _ _ y0
      replace y1 := below_cells hal _ _ y1
      replace y2 := below_cells hal _ _ y2
      replace y3 := below_cells hal _ _ y3
      replace y4 := below_cells hal _ _ y4
      have q0 : w1.cell? ⟨Y, 0, none⟩ = some (.string x.id) := cell_at hz
      have q1 : w1.cell? ⟨Y, 1, none⟩ = some (.int .u32 x.idx) := cell_at hz
      have q2 : w1.cell? ⟨Y, 2, none⟩ = some (.int .i64 x.val) := cell_at hz
      have q3 : w1.cell? ⟨Y, 3, none⟩ = some (.string x.script) := cell_at hz
      have q4 : w1.cell? ⟨Y, 4, none⟩ = some (.int .i64 x.ht) := cell_at hz
      have c0 : w1.cell? ⟨b, 0, none⟩ = some (.string script) := cell_at HRM1.out.box
      clear hz hal hY HB d0 d1 d2 d3 d4
      by_cases hs : x.script = script
      rotate_left
      · have hbe := vbytes_ne hs
        have HF := Lib.hid (fold_skip HACC.out HX.out (fits_no1 (need := need) (taken := takenB M) hs))
        obtain ⟨C, hC⟩ : ∃ C : World → Prop, C = fun w' => Below w1.heap.size w1 w' := ⟨_, rfl⟩
        have kq0 := kin_cell hC q0
        have kq1 := kin_cell hC q1
        have kq2 := kin_cell hC q2
        have kq3 := kin_cell hC q3
        have kq4 := kin_cell hC q4
        have ky0 := kin_cell hC y0
        have ky1 := kin_cell hC y1
        have ky2 := kin_cell hC y2
        have ky3 := kin_cell hC y3
        have ky4 := kin_cell hC y4
        have kc0 := kin_cell hC c0
        have HC := Lib.hid hC
        clear hC
        refine wp_region_kin C (by kernel_rfl) (by kernel_rfl) (by rw [HC.out]; exact ⟨rfl, rfl, rfl, Nat.le_refl _, fun _ _ => rfl⟩) ?_
        intro hne
        repeat (first | (go_big_quiet_step (fail)) | (quiet_step (fail)))
        refine wpQuiet_nil ?_
        intro _ hw'
        obtain ⟨kx, hw''⟩ := hw'
        subst hw''
        obtain ⟨w2, hxc⟩ := kx
        rw [HC.out] at hxc
        clear HC hne kq0 kq1 kq2 kq3 kq4 ky0 ky1 ky2 ky3 ky4 kc0
        have HB2 := Lib.hid (HB1.out.trans (hxc.mono HB1.out.size))
        have HZ0 := Lib.hid (stay HZ0.out hxc)
        have HZ1 := Lib.hid (stay HZ1.out hxc)
        clear hxc q0 q1 q2 q3 q4 y0 y1 y2 y3 y4 c0
        go_wp2_with fail
        go_roundg (n - (k + 1))
        case measure => have := HGK.out; omega
        case rel => exact ⟨k + 1, acc, rfl, by omega, rfl, by go_num, HB2.out, HF.out, HZ0.out, by rw [← HYM.out]; exact HZ1.out⟩
      by_cases hv : x.val < need
      · have hbe : (x.script.toList == script.toList) = true := by rw [hs]; exact beq_self_eq_true _
        have HF := Lib.hid (fold_skip HACC.out HX.out (fits_no2 (script := script) (taken := takenB M) hv))
        obtain ⟨C, hC⟩ : ∃ C : World → Prop, C = fun w' => Below w1.heap.size w1 w' := ⟨_, rfl⟩
        have kq0 := kin_cell hC q0
        have kq1 := kin_cell hC q1
        have kq2 := kin_cell hC q2
        have kq3 := kin_cell hC q3
        have kq4 := kin_cell hC q4
        have ky0 := kin_cell hC y0
        have ky1 := kin_cell hC y1
        have ky2 := kin_cell hC y2
        have ky3 := kin_cell hC y3
        have ky4 := kin_cell hC y4
        have kc0 := kin_cell hC c0
        have HC := Lib.hid hC
        clear hC
        refine wp_region_kin C (by kernel_rfl) (by kernel_rfl) (by rw [HC.out]; exact ⟨rfl, rfl, rfl, Nat.le_refl _, fun _ _ => rfl⟩) ?_
        intro hne
        repeat (first | (go_big_quiet_step (fail)) | (quiet_step (fail)))
        refine wpQuiet_nil ?_
        intro _ hw'
        obtain ⟨kx, hw''⟩ := hw'
        subst hw''
        obtain ⟨w2, hxc⟩ := kx
        rw [HC.out] at hxc
        clear HC hne kq0 kq1 kq2 kq3 kq4 ky0 ky1 ky2 ky3 ky4 kc0
        have HB2 := Lib.hid (HB1.out.trans (hxc.mono HB1.out.size))
        have HZ0 := Lib.hid (stay HZ0.out hxc)
        have HZ1 := Lib.hid (stay HZ1.out hxc)
        clear hxc q0 q1 q2 q3 q4 y0 y1 y2 y3 y4 c0
        go_wp2_with fail
        go_roundg (n - (k + 1))
        case measure => have := HGK.out; omega
        case rel => exact ⟨k + 1, acc, rfl, by omega, rfl, by go_num, HB2.out, HF.out, HZ0.out, by rw [← HYM.out]; exact HZ1.out⟩
      have hbe : (x.script.toList == script.toList) = true := by rw [hs]; exact beq_self_eq_true _
      obtain ⟨tk, htk⟩ : ∃ tk, tk = takenB M x.pt := ⟨_, rfl⟩
      have HTK := Lib.hid htk
      clear htk
      obtain ⟨C, hC⟩ : ∃ C : World → Prop, C = fun w' => Below w1.heap.size w1 w' := ⟨_, rfl⟩
      have kq0 := kin_cell hC q0
      have kq1 := kin_cell hC q1
      have kq2 := kin_cell hC q2
      have kq3 := kin_cell hC q3
      have kq4 := kin_cell hC q4
      have ky0 := kin_cell hC y0
      have ky1 := kin_cell hC y1
      have ky2 := kin_cell hC y2
      have ky3 := kin_cell hC y3
      have ky4 := kin_cell hC y4
      have kc0 := kin_cell hC c0
      have QN := Lib.hid (kin_call hC fun y h => (HTK.out ▸ taken_any b m script M x.pt y (HRM1.out.below h)))
      cases tk
      rotate_left
      · have HF := Lib.hid (fold_skip HACC.out HX.out (fits_no3 (script := script) (need := need) HTK.out.symm))
        have HC := Lib.hid hC
        clear hC
        refine wp_region_kin C (by kernel_rfl) (by kernel_rfl) (by rw [HC.out]; exact ⟨rfl, rfl, rfl, Nat.le_refl _, fun _ _ => rfl⟩) ?_
        intro hne
        repeat (first | (go_big_quiet_step ((rename_i y; go_at_call 29; exact Calls.kin (QN.out y) (fun w' h => h)))) | (quiet_step ((rename_i y; go_at_call 29; exact Calls.kin (QN.out y) (fun w' h => h)))))
        refine wpQuiet_nil ?_
        intro _ hw'
        obtain ⟨kx, hw''⟩ := hw'
        subst hw''
        obtain ⟨w2, hxc⟩ := kx
        rw [HC.out] at hxc
        clear HC hne kq0 kq1 kq2 kq3 kq4 ky0 ky1 ky2 ky3 ky4 kc0
        have HB2 := Lib.hid (HB1.out.trans (hxc.mono HB1.out.size))
        have HZ0 := Lib.hid (stay HZ0.out hxc)
        have HZ1 := Lib.hid (stay HZ1.out hxc)
        clear hxc q0 q1 q2 q3 q4 y0 y1 y2 y3 y4 c0
        go_wp2_with fail
        go_roundg (n - (k + 1))
        case measure => have := HGK.out; omega
        case rel => exact ⟨k + 1, acc, rfl, by omega, rfl, by go_num, HB2.out, HF.out, HZ0.out, by rw [← HYM.out]; exact HZ1.out⟩
      have HF := Lib.hid (fold_take HACC.out HX.out (fits_yes hs hv HTK.out.symm))
      have HC := Lib.hid hC
      clear hC
      refine wp_region_kin C (by kernel_rfl) (by kernel_rfl) (by rw [HC.out]; exact ⟨rfl, rfl, rfl, Nat.le_refl _, fun _ _ => rfl⟩) ?_
      intro hne
      repeat (first | (go_big_quiet_step ((rename_i y; go_at_call 29; exact Calls.kin (QN.out y) (fun w' h => h)))) | (quiet_step ((rename_i y; go_at_call 29; exact Calls.kin (QN.out y) (fun w' h => h)))))
      refine wpQuiet_nil ?_
      intro _ hw'
      obtain ⟨kx, hw''⟩ := hw'
      subst hw''
      obtain ⟨w2, hxc⟩ := kx
      rw [HC.out] at hxc
      clear HC hne kq0 kq1 kq2 kq3 kq4 ky0 ky1 ky2 ky3 ky4 kc0
      have HB2 := Lib.hid (HB1.out.trans (hxc.mono HB1.out.size))
      have HZ0 := Lib.hid (stay HZ0.out hxc)
      have HZ1 := Lib.hid (stay HZ1.out hxc)
      replace q0 := below_cells hxc _ _ q0
      replace q1 := below_cells hxc _ _ q1
      replace q2 := below_cells hxc _ _ q2
      replace q3 := below_cells hxc _ _ q3
      replace q4 := below_cells hxc _ _ q4
      replace y0 := below_cells hxc _ _ y0
      replace y1 := below_cells hxc _ _ y1
      replace y2 := below_cells hxc _ _ y2
      replace y3 := below_cells hxc _ _ y3
      replace y4 := below_cells hxc _ _ y4
      clear hxc c0 HB1 HRM1 hs hv hbe hv1
      cases acc with
      | none =>
        have HOX := Lib.hid (five_cells (HYZ.out ▸ HZ1.out) (.string x.id) (.int .u32 x.idx) (.int .i64 x.val) (.string x.script) (.int .i64 x.ht))
        have f0 : w2.frozen? ⟨X + 1, 0, none⟩ = false := free_at HZ1.out
        have f1 : w2.frozen? ⟨X + 1, 1, none⟩ = false := free_at HZ1.out
        have f2 : w2.frozen? ⟨X + 1, 2, none⟩ = false := free_at HZ1.out
        have f3 : w2.frozen? ⟨X + 1, 3, none⟩ = false := free_at HZ1.out
        have f4 : w2.frozen? ⟨X + 1, 4, none⟩ = false := free_at HZ1.out
        go_wp2_with fail
        clear q0 q1 q2 q3 q4 y0 y1 y2 y3 y4 f0 f1 f2 f3 f4
        have HBf := Lib.hid (HB2.out.trans (HOX.out.2.2 w.heap.size (by rw [HXW.out]; omega)))
        go_roundg (n - (k + 1))
        case measure => have := HGK.out; omega
        case rel => exact ⟨k + 1, some x, rfl, by omega, rfl, by go_num, HBf.out, HF.out, (HOX.out.2.1 X (by omega)).trans HZ0.out, HOX.out.1⟩
      | some yo =>
        obtain rfl : ym = yo := HYM.out
        obtain ⟨bt, hbt⟩ : ∃ bt, bt = betterB x ym := ⟨_, rfl⟩
        have HBT := Lib.hid hbt
        have HCB := Lib.hid (fun z => hbt ▸ better_any x ym z)
        clear hbt
        unfold enC at HCB
        go_wp2_with fail
        refine (HCB.out w2).mono ?_
        rintro e w3 ⟨rfl, hxc⟩
        have HB3 := Lib.hid (HB2.out.trans (hxc.mono HB2.out.size))
        have HZ0 := Lib.hid (stay HZ0.out hxc)
        have HZ1 := Lib.hid (stay HZ1.out hxc)
        replace q0 := below_cells hxc _ _ q0
        replace q1 := below_cells hxc _ _ q1
        replace q2 := below_cells hxc _ _ q2
        replace q3 := below_cells hxc _ _ q3
        replace q4 := below_cells hxc _ _ q4
        replace y0 := below_cells hxc _ _ y0
        replace y1 := below_cells hxc _ _ y1
        replace y2 := below_cells hxc _ _ y2
        replace y3 := below_cells hxc _ _ y3
        replace y4 := below_cells hxc _ _ y4
        clear hxc HB2 HCB
        cases bt
        · have HF2 := Lib.hid (HF.out.trans (show upB (some ym) x = some ym by unfold upB; dsimp only; rw [← HBT.out]; rfl))
          go_wp2_with fail
          go_roundg (n - (k + 1))
          case measure => have := HGK.out; omega
          case rel => exact ⟨k + 1, some ym, rfl, by omega, rfl, by go_num, HB3.out, HF2.out, HZ0.out, HZ1.out⟩
        · have HF2 := Lib.hid (HF.out.trans (show upB (some ym) x = some x by unfold upB; dsimp only; rw [← HBT.out]; rfl))
          have HOX := Lib.hid (five_cells (HYZ.out ▸ HZ1.out) (.string x.id) (.int .u32 x.idx) (.int .i64 x.val) (.string x.script) (.int .i64 x.ht))
          have f0 : w3.frozen? ⟨X + 1, 0, none⟩ = false := free_at HZ1.out
          have f1 : w3.frozen? ⟨X + 1, 1, none⟩ = false := free_at HZ1.out
          have f2 : w3.frozen? ⟨X + 1, 2, none⟩ = false := free_at HZ1.out
          have f3 : w3.frozen? ⟨X + 1, 3, none⟩ = false := free_at HZ1.out
          have f4 : w3.frozen? ⟨X + 1, 4, none⟩ = false := free_at HZ1.out
          go_wp2_with fail
          clear q0 q1 q2 q3 q4 y0 y1 y2 y3 y4 f0 f1 f2 f3 f4
          have HBf := Lib.hid (HB3.out.trans (HOX.out.2.2 w.heap.size (by rw [HXW.out]; omega)))
          go_roundg (n - (k + 1))
          case measure => have := HGK.out; omega
          case rel => exact ⟨k + 1, some x, rfl, by omega, rfl, by go_num, HBf.out, HF2.out, (HOX.out.2.1 X (by omega)).trans HZ0.out, HOX.out.1⟩
    · obtain rfl : k = n := by omega
      have f0 : wo.frozen? ⟨X, 0, none⟩ = false := free_at HZ0.out
      have f1 : wo.frozen? ⟨X, 1, none⟩ = false := free_at HZ0.out
      have f2 : wo.frozen? ⟨X, 2, none⟩ = false := free_at HZ0.out
      have f3 : wo.frozen? ⟨X, 3, none⟩ = false := free_at HZ0.out
      have f4 : wo.frozen? ⟨X, 4, none⟩ = false := free_at HZ0.out
      have x0 : wo.cell? ⟨X, 0, none⟩ = some (.string ⟨#[]⟩) := cell_at HZ0.out
      have x1 : wo.cell? ⟨X, 1, none⟩ = some (.int .u32 0) := cell_at HZ0.out
      have x2 : wo.cell? ⟨X, 2, none⟩ = some (.int .i64 0) := cell_at HZ0.out
      have x3 : wo.cell? ⟨X, 3, none⟩ = some (.string ⟨#[]⟩) := cell_at HZ0.out
      have x4 : wo.cell? ⟨X, 4, none⟩ = some (.int .i64 0) := cell_at HZ0.out
      obtain ⟨r1, r2, r3⟩ := five_cells HZ0.out (.string ym.id) (.int .u32 ym.idx) (.int .i64 ym.val) (.string ym.script) (.int .i64 ym.ht)
      have HB2 := Lib.hid (HB.out.trans (r3 w.heap.size (by rw [HXW.out]; exact Nat.le_refl _)))
      clear r2 r3
      have HR1 := Lib.hid r1
      clear r1
      have HFIN := Lib.hid (show pickP R = .tuple #[.agg #[.string ym.id, .int .u32 ym.idx, .int .i64 ym.val, .string ym.script, .int .i64 ym.ht], .bool acc.isSome] by
        have e : R = acc := by rw [HRES.out, ← HACC.out, HN.out, List.take_length]; rfl
        unfold pickP
        rw [e, ← HYM.out, HYZ.out])
      go_wp2_with fail
      clear x0 x1 x2 x3 x4 f0 f1 f2 f3 f4
      generalize ((((wo.setCell ⟨X, 0, none⟩ (.string ym.id)).setCell ⟨X, 1, none⟩ (.int .u32 ym.idx)).setCell ⟨X, 2, none⟩ (.int .i64 ym.val)).setCell ⟨X, 3, none⟩ (.string ym.script)).setCell ⟨X, 4, none⟩ (.int .i64 ym.ht) = wf at *
      have r0 : wf.cell? ⟨X, 0, none⟩ = some (.string ym.id) := cell_at HR1.out
      have r1 : wf.cell? ⟨X, 1, none⟩ = some (.int .u32 ym.idx) := cell_at HR1.out
      have r2 : wf.cell? ⟨X, 2, none⟩ = some (.int .i64 ym.val) := cell_at HR1.out
      have r3 : wf.cell? ⟨X, 3, none⟩ = some (.string ym.script) := cell_at HR1.out
      have r4 : wf.cell? ⟨X, 4, none⟩ = some (.int .i64 ym.ht) := cell_at HR1.out
      refine bodyPost_ret (v := .tuple #[.agg #[.string ym.id, .int .u32 ym.idx, .int .i64 ym.val, .string ym.script, .int .i64 ym.ht], .bool acc.isSome]) (by simp [results, Try.results28, go_sem, r0, r1, r2, r3, r4]) rfl ⟨by rw [HFIN.out], HB2.out⟩
end Go.Proofs.Ytelindgnkpfkiaa
