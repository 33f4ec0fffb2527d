/-
  Amounts, and what a transaction pays in all. Conditions: none beyond each theorem's own.
-/
import Derived.Test.YtelindgnkpfkiaaTxo
import Derived.Test.YtelindgnkpfkiaaConv
import Derived.Test.YtelindgnkpfkiaaTail
import Derived.BigQuiet
import Derived.Deep.QuietTactic
import Derived.Deep.RegionHeld3
import Derived.OwnWalk
import Derived.Deep.LoopGhost
import Derived.Deep.DeepCutAuto
import Derived.Deep.CutBlock
namespace Go.Proofs.Ytelindgnkpfkiaa
open Go.RowKit Go.BigFrame
set_option linter.unusedVariables false
set_option linter.unusedSimpArgs false

def goodA (a : Int) : Bool := decide (0 ≤ a) && decide (a ≤ 2100000000000000)
theorem goodA_iff (a : Int) : goodA a = true ↔ 0 ≤ a ∧ a ≤ 2100000000000000 := by unfold goodA; simp
def sumA : Int → List Int → Int × Int
  | s, [] => (s, 0)
  | s, a :: r => if goodA a && goodA (s + a) then sumA (s + a) r else (0, 3)

set_option maxHeartbeats 400000 in
theorem awithin_any (a m : Int) (w : World) : Calls Try.prog 41 #[.int .i64 a, .int .i64 m] w fun e w' => e = .returned (.bool (decide (0 ≤ a) && decide (a ≤ m))) ∧ w = w' := by
  go_enter Try.func41, Try.ntmps41
  by_cases h0 : 0 ≤ a
  · go_wp2
    go_ret
    exact ⟨by simp [h0], rfl⟩
  · go_wp2
    go_ret
    exact ⟨by rw [decide_eq_false (show ¬ 0 ≤ a from Int.not_le.2 h0)]; rfl, rfl⟩
set_option maxHeartbeats 400000 in
theorem good_any (a : Int) (w : World) : Calls Try.prog 25 #[.int .i64 a] w fun e w' => e = .returned (.bool (goodA a)) ∧ w = w' := by
  go_enter Try.func25, Try.ntmps25
  go_wp2_with (go_at_call 41; refine (awithin_any a 2100000000000000 w).mono ?_; rintro e w' ⟨rfl, rfl⟩)
  go_ret
  exact ⟨rfl, rfl⟩
set_option maxHeartbeats 400000 in
theorem rgood_any (a : Int) (w : World) : Calls Try.prog 35 #[.int .i64 a] w fun e w' => e = .returned (.bool (goodA a)) ∧ w = w' := by
  unfold goodA
  go_enter Try.func35, Try.ntmps35
  by_cases h0 : 0 ≤ a
  · go_wp2
    go_ret
    exact ⟨by simp [h0], rfl⟩
  · go_wp2
    go_ret
    exact ⟨by rw [decide_eq_false (show ¬ 0 ≤ a from Int.not_le.2 h0)]; rfl, rfl⟩
/-- What Add answers of a sum that may be. -/
def addA (s a : Int) : Int × Int := if goodA a && goodA (s + a) then (s + a, 0) else (0, 3)
def AddIs (s a : Int) (w : World) (e : Ending) (w' : World) : Prop := e = .returned (.tuple #[.int .i64 (addA s a).1, .int .i64 (addA s a).2]) ∧ w = w'
theorem sumA_step (s a : Int) (r : List Int) : sumA s (a :: r) = if (addA s a).2 = 0 then sumA (addA s a).1 r else (0, 3) := by
  show (if goodA a && goodA (s + a) then sumA (s + a) r else (0, 3)) = _
  unfold addA
  by_cases h : (goodA a && goodA (s + a)) = true
  · rw [if_pos h, if_pos h, if_pos rfl]
  · rw [if_neg h, if_neg h, if_neg (by decide)]
theorem addA_ok {s a : Int} (h : (addA s a).2 = 0) : goodA (addA s a).1 = true ∧ goodA a = true ∧ (addA s a).1 = s + a := by
  unfold addA at *
  by_cases hg : (goodA a && goodA (s + a)) = true
  · rw [if_pos hg]
    simp only [Bool.and_eq_true] at hg
    exact ⟨hg.2, hg.1, rfl⟩
  · rw [if_neg hg] at h
    simp at h
theorem addA_no {s a : Int} (h : (addA s a).2 ≠ 0) : addA s a = (0, 3) := by
  unfold addA at *
  by_cases hg : (goodA a && goodA (s + a)) = true
  · rw [if_pos hg] at h
    exact absurd rfl h
  · rw [if_neg hg]

theorem SlAt.int {k : IntKind} {w : World} {a : Option Addr} {n c i : Nat} {xs : List Int} (h : SlAt (rpInt k) w (.slice a n c) xs) (hi : i < n) : ∃ (b o : Nat) (x : Int), a = some ⟨b, o, none⟩ ∧ xs[i]? = some x ∧ (Lit.int k x).wf = true ∧ w.cell? ⟨b, o + i, none⟩ = some (.int k x) := by
  obtain ⟨b, o, x, cs, h1, h2, h3, h4, h5, h6⟩ := h.at hi
  subst h5
  refine ⟨b, o, x, h1, h2, h6, ?_⟩
  have := h4 0 _ rfl
  simpa [rpInt] using this

def SumAIs (l : List Int) (w : World) (e : Ending) (w' : World) : Prop := e = .returned (.tuple #[.int .i64 (sumA 0 l).1, .int .i64 (sumA 0 l).2]) ∧ w = w'
/-! ### what a transaction pays -/
theorem info_int : (Try.prog.info? 3).map (fun i => (i.zero, i.size, i.bytes)) = some (some (.int .i64 0), 1, 8) := by kernel_rfl
def intCells (l : List Int) : List Value := l.map (.int .i64)
theorem SlAt.of_ints {w : World} {base n : Nat} {v : Value} {l : List Int} (h : w.ownsRow base 3 1 v n (intCells l)) (hn : n = l.length) (ho : ∀ x ∈ l, (Lit.int .i64 x).wf = true) : SlAt (rpInt .i64) w v l := by
  subst hn
  obtain ⟨a, c, rfl, h1, h2⟩ := ownsRow_shape h
  refine ⟨a, c, rfl, h1, h2, fun i x hi => ?_⟩
  have hil : i < l.length := (List.getElem?_eq_some_iff.1 hi).1
  obtain ⟨b, rfl, hb, hb2⟩ := ownsRow_some h (by omega)
  refine ⟨b, 0, [.int .i64 x], rfl, rfl, fun j u hj => ?_, rfl, ho x (List.mem_of_getElem? hi)⟩
  obtain rfl : j = 0 := by have := (List.getElem?_eq_some_iff.1 hj).1; simp at this; omega
  have := h.cells (g := b) rfl i u (by simp at hj; simp [intCells, hi, hj])
  rw [Addr.add_lit] at this
  simpa [rpInt] using this

section
variable {w : World} {va vo : Value} {t : PTx} {wr : World}
end

def TotIs (t : PTx) (w : World) (e : Ending) (w' : World) : Prop := e = .returned (.tuple #[.int .i64 (sumA 0 (t.outs.map (·.val))).1, .int .i64 (sumA 0 (t.outs.map (·.val))).2]) ∧ Below w.heap.size w w'
theorem wf_of {x : Int} (h : -9223372036854775808 ≤ x ∧ x ≤ 9223372036854775807) : (Lit.int .i64 x).wf = true := by
  simpa [Lit.wf, IntKind.min, IntKind.max, IntKind.signed, IntKind.bits] using h
end Go.Proofs.Ytelindgnkpfkiaa
