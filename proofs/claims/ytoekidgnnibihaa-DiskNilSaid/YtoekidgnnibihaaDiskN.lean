/-
  DiskNil returns true for every input. Conditions: none.
-/
import Derived.Test.YtoekidgnnibihaaDiskL
import Derived.Test.YtoekidgnnibihaaShelf
namespace Go.Proofs.Ytoekidgnnibihaa
open Go.RowKit
set_option linter.unusedVariables false

theorem wrR (R : List UInt8) (h : R.length = 3999998) : Dk.new.wr R = (⟨R, false, -1⟩, 0) := by
  have := wr_ok (d := Dk.new) R rfl rfl (by simp [Dk.new]; omega)
  simpa [Dk.new] using this
theorem wrFull (d : Dk) (l : List UInt8) (h1 : d.down = false) (h2 : 4000000 < d.bytes.length + l.length) : d.wr l = (d, 16) := by
  unfold Dk.wr
  rw [h1, if_neg (by simp), if_pos h2]

theorem repeat_x (w : World) : Calls Try.prog 21 #[.string ⟨#[120]⟩, .int .i64 3999998] w fun e w' => ∃ R : List UInt8, e = .returned (.string ⟨R.toArray⟩) ∧ R.length = 3999998 ∧ Below w.heap.size w w' := by
  obtain ⟨c, hc⟩ : ∃ c : Nat, c = 3999998 := ⟨_, rfl⟩
  have hi : (3999998 : Int) = (c : Int) := by omega
  rw [hi, ← hc]
  exact (Try.strings_Repeat (ByteArray.mk #[120]) c w (by omega) (by rw [show (ByteArray.mk #[120]).size = 1 from rfl]; omega)).mono fun e w' ⟨h1, h2⟩ =>
    ⟨_, h1, by rw [Lib.repeatL_length, show (ByteArray.mk #[120]).data.toList.length = 1 from rfl, Nat.mul_one], h2⟩

set_option maxRecDepth 100000 in
set_option maxHeartbeats 1000000 in
theorem nil_any (s : ByteArray) (n : Int) (full : Bool) (w : World) :
    Calls Try.prog 6 #[.string s, .int .i64 n, .bool full] w fun e w' => e = .returned (.bool true) ∧ Below w.heap.size w w' := by
  cases full
  all_goals
    go_enter Try.func6, Try.ntmps6
    go_wp2_with (first
      | (go_at_call 10; refine (cut_nil _ _).mono ?_; rintro e w' ⟨rfl, rfl⟩)
      | (go_at_call 14; refine (restart_nil _).mono ?_; rintro e w' ⟨rfl, rfl⟩)
      | (go_at_call 9; refine (read_nil _).mono ?_; rintro e w' ⟨rfl, rfl⟩)
      | (go_at_call 8; refine (write_nil _ _).mono ?_; rintro e w' ⟨rfl, rfl⟩)
      | (go_at_call 16; refine (keep_nil _ _).mono ?_; rintro e w' ⟨rfl, rfl⟩)
      | (go_at_call 13; refine (down_nil _).mono ?_; rintro e w' ⟨rfl, rfl⟩)
      | (go_at_call 12; refine (size_nil _).mono ?_; rintro e w' ⟨rfl, rfl⟩))
  · refine (wakes_any _).mono ?_
    rintro e w1 ⟨rfl, h1⟩
    go_wp2
    go_ret
    exact ⟨rfl, h1⟩
  · refine (new_any _).mono ?_
    rintro e w1 ⟨rfl, hw1⟩
    have h1 := One.start (Below.refl w.heap.size w)
    rw [← hw1] at h1
    clear hw1
    obtain ⟨A, hA⟩ : ∃ A, A = w.heap.size := ⟨_, rfl⟩
    rw [← hA] at h1 ⊢
    have HA := Lib.hid hA
    clear hA
    go_wp2_with fail
    refine (repeat_x w1).mono ?_
    rintro e w2 ⟨R, rfl, hRl, hb2⟩
    have h2 := h1.wakes hb2
    have HR := Lib.hid hRl
    have hRs : (ByteArray.mk R.toArray).size ≤ 4000000 := by simp [ByteArray.size, hRl]
    clear h1 hb2 hRl
    go_wp2_with fail
    refine (h2.call (fun F hF => write_any _ F _ _ (ByteArray.mk R.toArray) hF (by omega))).mono ?_
    rintro e w3 ⟨rfl, h3⟩
    rw [show (ByteArray.mk R.toArray).data.toList = R by simp, wrR R HR.out] at h3 ⊢
    go_wp2_with fail
    refine (h3.call (fun F hF => write_any _ F _ _ (ByteArray.mk #[97, 98, 99]) hF (by decide))).mono ?_
    rintro e w4 ⟨rfl, h4⟩
    rw [wrFull ⟨R, false, -1⟩ _ rfl (by rw [HR.out, show (ByteArray.mk #[97, 98, 99]).data.toList.length = 3 from rfl]; omega)] at h4 ⊢
    go_wp2_with fail
    refine (h4.call (fun F hF => write_any _ F _ _ (ByteArray.mk #[97, 98]) hF (by decide))).mono ?_
    rintro e w5 ⟨rfl, h5⟩
    rw [wr_ok (d := ⟨R, false, -1⟩) _ rfl rfl (by rw [HR.out, show (ByteArray.mk #[97, 98]).data.toList.length = 2 from rfl]; omega)] at h5 ⊢
    have hl5 : (R ++ (ByteArray.mk #[97, 98]).data.toList).length = 4000000 := by rw [List.length_append, HR.out, show (ByteArray.mk #[97, 98]).data.toList.length = 2 from rfl]
    generalize R ++ (ByteArray.mk #[97, 98]).data.toList = R5 at *
    have HL := Lib.hid hl5
    clear hl5
    go_wp2_with fail
    refine (wakes_any _).mono ?_
    rintro e w6 ⟨rfl, hb6⟩
    have h6 := h5.wakes hb6
    clear h2 h3 h4 h5 hb6
    obtain ⟨s0, c0, hc0, -, -⟩ := h6.cells
    have hm : (((Dk.mk R5 false (-1)).bytes.length : Int) == 4000000) = true := by rw [beq_iff_eq]; have := HL.out; dsimp only; omega
    generalize (Dk.mk R5 false (-1)).bytes.length = m at hc0 hm
    have hbl : Below A w w6 := h6.below
    go_wp2_with fail
    refine (size_any _ _ _ _ _ hc0).mono ?_
    rintro e w' ⟨rfl, rfl⟩
    go_wp2_with fail
    refine (h6.call (fun F hF => write_any _ F _ _ (ByteArray.mk #[]) hF (by decide))).mono ?_
    rintro e w7 ⟨rfl, h7⟩
    rw [wr_ok (d := ⟨R5, false, -1⟩) _ rfl rfl (by rw [HL.out, show (ByteArray.mk #[]).data.toList.length = 0 from rfl]; omega)] at h7 ⊢
    go_wp2_with fail
    refine (h7.call (fun F hF => write_any _ F _ _ (ByteArray.mk #[97]) hF (by decide))).mono ?_
    rintro e w8 ⟨rfl, h8⟩
    rw [wrFull _ _ rfl (by dsimp only; rw [List.length_append, HL.out, show (ByteArray.mk #[]).data.toList.length = 0 from rfl, show (ByteArray.mk #[97]).data.toList.length = 1 from rfl]; omega)] at h8 ⊢
    have hfin : Below w.heap.size w w8 := by rw [← HA.out]; exact h8.below
    clear h6 h7 h8 hc0 hbl
    go_wp2
    go_ret
    exact ⟨rfl, hfin⟩

theorem diskNil_walk (s : ByteArray) (n : Int) (full : Bool) (w : World) (hs : s.size ≤ maxLen) (hn : (Lit.int .i64 n).wf = true) :
    Calls Try.prog 6 #[.string s, .int .i64 n, .bool full] w fun e w' => e = .returned (.bool true) ∧ Below w.heap.size w w' := nil_any s n full w

end Go.Proofs.Ytoekidgnnibihaa
