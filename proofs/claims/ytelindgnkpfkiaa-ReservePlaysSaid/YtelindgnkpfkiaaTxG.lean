/-
  tx.Base, tx.Less. Conditions: none beyond each theorem's own.
-/
import Derived.Test.YtelindgnkpfkiaaTxN
import Derived.Test.YtelindgnkpfkiaaCmp
import Derived.Deep.RegionHeld
import Derived.Deep.DrawnRows
namespace Go.Proofs.Ytelindgnkpfkiaa
open Go.RowKit Go.BigFrame
set_option linter.unusedVariables false
set_option linter.unusedSimpArgs false

def baseOf (t : PTx) : Bool := match t.ins with
  | [x] => isBase x.id x.idx
  | _ => false
theorem baseOf_one {t : PTx} {x : PIn} (h1 : t.ins.length = 1) (hx : t.ins[0]? = some x) : baseOf t = isBase x.id x.idx := by
  obtain ⟨ver, ins, outs, lock⟩ := t
  match ins, h1, hx with
  | [y], _, hx => obtain rfl := Option.some.inj hx; rfl
theorem baseOf_not {t : PTx} (h1 : t.ins.length ≠ 1) : baseOf t = false := by
  obtain ⟨ver, ins, outs, lock⟩ := t
  match ins, h1 with
  | [], _ => rfl
  | [y], h => exact absurd rfl h
  | _ :: _ :: _, _ => rfl

def lessPt (a b : Pt) : Bool := decide (orI (Lib.compareBytes a.1.data.toList b.1.data.toList) (cmpN a.2 b.2) < 0)
set_option maxRecDepth 100000 in
set_option maxHeartbeats 2000000 in
theorem less_any (p q : Pt) (w : World) : Calls Try.prog 49 #[.agg #[.string p.1, .int .u32 p.2], .agg #[.string q.1, .int .u32 q.2]] w (BIs (lessPt p q) w) := by
  obtain ⟨p1, p2⟩ := p
  obtain ⟨q1, q2⟩ := q
  dsimp only
  obtain ⟨r, hr⟩ : ∃ r, r = lessPt (p1, p2) (q1, q2) := ⟨_, rfl⟩
  rw [← hr]
  unfold lessPt at hr
  dsimp only at hr
  have HR := Lib.hid hr
  clear hr
  have hz1 := heap_alloc_new (w.alloc (.cells #[.string p1, .int .u32 p2] 35)) (.cells #[.string q1, .int .u32 q2] 35)
  have hz0 : ((w.alloc (.cells #[.string p1, .int .u32 p2] 35)).alloc (.cells #[.string q1, .int .u32 q2] 35)).heap[w.heap.size]? = some (.cells #[.string p1, .int .u32 p2] 35 (0, 0)) := by
    rw [Below.heap_alloc _ _ _ (by simp)]
    exact heap_alloc_new w _
  have hb : Below w.heap.size w ((w.alloc (.cells #[.string p1, .int .u32 p2] 35)).alloc (.cells #[.string q1, .int .u32 q2] 35)) := ((Below.refl _ _).alloc (Nat.le_refl _) _).alloc (by simp) _
  have s1 : (w.alloc (.cells #[.string p1, .int .u32 p2] 35)).heap.size = w.heap.size + 1 := by simp
  rw [s1] at hz1
  have HC := Lib.hid (fun w => Try.strings_Compare p1 q1 w)
  have HN := Lib.hid (fun w => cmp_any p2 q2 w)
  generalize Lib.compareBytes p1.data.toList q1.data.toList = cb at *
  generalize cmpN p2 q2 = cn at *
  go_enter Try.func49, Try.ntmps49
  go_upto_region 1 with fail
  generalize (w.alloc (.cells #[.string p1, .int .u32 p2] 35)).alloc (.cells #[.string q1, .int .u32 q2] 35) = w0 at *
  have d0 : w0.cell? ⟨w.heap.size, 0, none⟩ = some (.string p1) := cell_at hz0
  have d1 : w0.cell? ⟨w.heap.size, 1, none⟩ = some (.int .u32 p2) := cell_at hz0
  have e0 : w0.cell? ⟨w.heap.size + 1, 0, none⟩ = some (.string q1) := cell_at hz1
  have e1 : w0.cell? ⟨w.heap.size + 1, 1, none⟩ = some (.int .u32 q2) := cell_at hz1
  have HB := Lib.hid hb
  clear hb hz0 hz1 s1
  go_region_held (fun w' => w'.cell? ⟨w.heap.size, 0, none⟩ = some (.string p1) ∧ w'.cell? ⟨w.heap.size, 1, none⟩ = some (.int .u32 p2) ∧ w'.cell? ⟨w.heap.size + 1, 0, none⟩ = some (.string q1) ∧ w'.cell? ⟨w.heap.size + 1, 1, none⟩ = some (.int .u32 q2)) (go_keep)
    (first
      | (go_at_call 56; refine (HC.out _).mono ?_; rintro e w' ⟨rfl, rfl⟩)
      | (go_at_call 57; refine (HN.out _).mono ?_; rintro e w' ⟨rfl, rfl⟩)
      | (go_at_call 55; refine (or_any _ cb cn _ (by simp) (by simp)).mono ?_; rintro e w' ⟨rfl, rfl⟩))
  have HZ := Lib.hid (show ∀ o, Below w.heap.size w (w0.alloc o).drew from fun o => (HB.out.alloc HB.out.size o).trans ⟨rfl, rfl, rfl, Nat.le_refl _, fun _ _ => rfl⟩)
  go_wp2_with fail
  go_ret
  exact ⟨ret_bool HR.out.symm, HZ.out _⟩
end Go.Proofs.Ytelindgnkpfkiaa
