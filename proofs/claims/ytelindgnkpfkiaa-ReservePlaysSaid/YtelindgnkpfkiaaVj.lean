/-
  Reserves: a new one. Conditions: the tag is a number.
-/
import Derived.Test.YtelindgnkpfkiaaVi
namespace Go.Proofs.Ytelindgnkpfkiaa
open Go.RowKit Go.BigFrame Go.Maps
set_option linter.unusedVariables false
set_option linter.unusedSimpArgs false

def NewIs (tag : Nat) (w : World) (e : Ending) (w' : World) : Prop :=
  ∃ b m, e = .returned (.tuple #[.pointer (some ⟨b, 0, none⟩), .int .i64 0]) ∧ RsM w' b m (scrT tag) (fun _ => none) 0 ∧ w.heap.size ≤ b ∧ w.heap.size ≤ m ∧ Below w.heap.size w w'
set_option maxRecDepth 100000 in
set_option maxHeartbeats 2000000 in
theorem newr_any (tag : Nat) (ht : tag < 65536) (h0 : tag ≠ 0) (w : World) : Calls Try.prog 6 #[.int .u16 tag] w (NewIs tag w) := by
  have HP := Lib.hid (lput_one w tag ht)
  have hmm := @run_makeMap Try.prog
  have hne : ¬ ((tag : Int) = 0) := by omega
  go_enter Try.func6, Try.ntmps6
  go_wp2_with fail
  refine HP.out.mono ?_
  rintro e w1 ⟨rfl, hb⟩
  have HB1 := Lib.hid (((Below.refl w.heap.size w).alloc (Nat.le_refl _) (.cells #[.int .u16 tag, .int .u16 0, .int .u32 0] 77)).trans (hb.mono (by simp)))
  clear hb
  have hown := World.ownsMap_made w1 Try.prog 3 ptElem
  obtain ⟨X, hX⟩ : ∃ q, q = w1.heap.size := ⟨_, rfl⟩
  obtain ⟨n1, n2, n3⟩ := new2 w1 X hX (.map #[] 0) (.cells #[.string (scrT tag), .map (some X)] 80)
  have hown2 := (hown.alloc (.cells #[.string (scrT tag), .map (some X)] 80))
  rw [← hX] at hown2
  have HF := Lib.hid (show NewIs tag w (.returned (.tuple #[.pointer (some ⟨X + 1, 0, none⟩), .int .i64 0])) ((w1.alloc (.map #[] 0)).alloc (.cells #[.string (scrT tag), .map (some X)] 80)) from
    ⟨X + 1, X, rfl, ⟨n2, ⟨0, _, hown2, Agr.start, Nat.le_refl _⟩, by omega⟩, by have := HB1.out.size; omega, by have := HB1.out.size; omega, HB1.out.trans (n3.mono HB1.out.size)⟩)
  clear hown hown2 n1 n2 n3
  subst hX
  go_wp2_with fail
  go_ret2
  exact HF.out
theorem newr_nil (w : World) : Calls Try.prog 6 #[.int .u16 0] w (fun e w' => e = .returned (.tuple #[.pointer none, .int .i64 2]) ∧ w' = w) := by
  go_enter Try.func6, Try.ntmps6
  go_wp2_with fail
  go_ret2
  exact ⟨rfl, rfl⟩
end Go.Proofs.Ytelindgnkpfkiaa
