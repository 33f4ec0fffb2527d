/-
  The disk's sign of life (wakes) returns true and touches nothing that was there.
-/
import Derived.Test.YtoekidgnnibihaaDisk
namespace Go.Proofs.Ytoekidgnnibihaa
open Go.RowKit

def W1 : Dk := Dk.new.cut 2
def W2 : Dk := (W1.wr [97, 98, 99]).1
def W3 : Dk := W2.restart
theorem W2_eq : W2 = ⟨[97, 98], true, -1⟩ := by kernel_rfl
theorem W12_err : (W1.wr (ByteArray.mk #[97, 98, 99]).data.toList).2 = 23 := by kernel_rfl
theorem W3_eq : W3 = ⟨[97, 98], false, -1⟩ := by simp [W3, W2_eq, Dk.restart]

set_option maxHeartbeats 400000 in
theorem wakes_any (w : World) : Calls Try.prog 11 #[] w fun e w' => e = .returned (.bool true) ∧ Below w.heap.size w w' := by
  go_enter Try.func11, Try.ntmps11
  go_wp2_with fail
  refine (new_any _).mono ?_
  rintro e w1 ⟨rfl, hw1⟩
  have hd1 := new_at w
  rw [← hw1] at hd1
  have hb1 : Fr [w.heap.size] w w1 := by rw [hw1]; exact Fr.alloc _ _ _
  clear hw1
  obtain ⟨B, hB⟩ : ∃ B, B = w.heap.size := ⟨_, rfl⟩
  rw [← hB] at hd1 hb1 ⊢
  have HB := Lib.hid hB
  clear hB
  go_wp2_with fail
  refine (cut_any _ _ _ _ 2 hd1 (by omega)).mono ?_
  rintro e w2 ⟨rfl, F2, hd2, ho2, hf2⟩
  change DkAt w2 F2 B W1 at hd2
  go_wp2_with fail
  refine (write_any _ _ _ _ _ hd2 (by decide)).mono ?_
  rintro e w3 ⟨rfl, F3, hd3, ho3, hf3⟩
  rw [W12_err]
  change DkAt w3 F3 B W2 at hd3
  have h31 : w3.cell? ⟨B, 1, none⟩ = some (.bool true) := by
    obtain ⟨a, c, hF, hb, _⟩ := hd3
    rw [cell_at hb, W2_eq]; rfl
  go_wp2_with fail
  refine (read_down _ _ h31).mono ?_
  rintro e w' ⟨rfl, rfl⟩
  go_wp2_with fail
  refine (restart_any _ _ _ _ hd3).mono ?_
  rintro e w4 ⟨rfl, F4, hd4, ho4, hf4⟩
  change DkAt w4 F4 B W3 at hd4
  rw [W3_eq] at hd4
  go_wp2_with fail
  refine (read_up _ _ _ _ hd4 rfl).mono ?_
  rintro e w' ⟨rfl, rfl⟩
  obtain ⟨a, c, h40⟩ : ∃ a c, w4.cell? ⟨B, 0, none⟩ = some (.slice a 2 c) := by
    obtain ⟨a, c, hF, hb, _⟩ := hd4
    exact ⟨a, c, cell_at hb⟩
  have hfin : Below w.heap.size w w4 := by
    have h : Fr [B] w w4 := (((hb1.trans (Onto.refl _ _) hf2).trans (Onto.trans (Nat.le_refl _) (Onto.refl _ _) (fun k hk => (ho2 k hk).imp id (fun h => Nat.le_trans hb1.size h))) hf3).trans
      (Onto.trans (Nat.le_refl _) (fun k hk => (ho2 k hk).imp id (fun h => Nat.le_trans hb1.size h)) (fun k hk => (ho3 k hk).imp id (fun h => Nat.le_trans hb1.size (Nat.le_trans hf2.size h)))) hf4)
    exact h.below (Nat.le_refl _) (by intro k hk; rw [List.mem_singleton] at hk; rw [hk, HB.out]; exact Nat.le_refl _)
  go_wp2_with (go_at_call 12; refine (size_any _ _ _ _ _ h40).mono ?_; rintro e w' ⟨rfl, rfl⟩)
  go_ret
  exact ⟨rfl, hfin⟩

end Go.Proofs.Ytoekidgnnibihaa
