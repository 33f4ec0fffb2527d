/-
  vint.Put, counted, sized; a builder's parts. Conditions: those of each theorem.
-/
import Derived.Test.YtfkcldaogfengaaWa
import Derived.Test.YtfkcldaogfengaaWx
namespace Go.Proofs.Ytfkcldaogfengaa
open Go.RowKit Go.BigFrame
set_option linter.unusedVariables false
set_option linter.unusedSimpArgs false

def SIs (l : List UInt8) (w : World) (e : Ending) (w' : World) : Prop := e = .returned (.string (bL l)) ∧ Below w.heap.size w w'
theorem orput_any (n k : Nat) (hn : n < 18446744073709551616) (hk : okSize k) (w : World) : Calls Try.prog 64 #[.int .u64 n, .int .i64 k] w (SIs (leB n k) w) := rput_any n k hn hk w
set_option maxHeartbeats 1000000 in
theorem rvput_any (n : Nat) (hn : n < 18446744073709551616) (w : World) : Calls Try.prog 79 #[.int .u64 n] w (SIs (vintL n) w) := by
  have s1 : ∀ m, (bL (leB m 1)).size = 1 := fun m => by rw [bL_size, leB_length]
  have s2 : ∀ m, (bL (leB m 2)).size = 2 := fun m => by rw [bL_size, leB_length]
  have s4 : ∀ m, (bL (leB m 4)).size = 4 := fun m => by rw [bL_size, leB_length]
  have s8 : ∀ m, (bL (leB m 8)).size = 8 := fun m => by rw [bL_size, leB_length]
  by_cases h1 : n < 253
  · have hz : (n : Int) < 253 := by omega
    have HF := Lib.hid (show vintL n = leB n 1 by unfold vintL; rw [if_pos h1])
    clear h1
    go_enter Try.func79, Try.ntmps79
    go_wp2_with fail
    refine (orput_any n 1 hn (.inl rfl) w).mono ?_
    rintro e w1 ⟨rfl, hb⟩
    go_wp2_with fail
    go_ret
    exact ⟨by rw [HF.out]; rfl, hb⟩
  · have hz1 : ¬ (n : Int) < 253 := by omega
    by_cases h2 : n < 65536
    · have hz : (n : Int) < 65536 := by omega
      have HF := Lib.hid (show vintL n = leB 253 1 ++ leB n 2 by unfold vintL; rw [if_neg h1, if_pos h2])
      clear h1 h2
      go_enter Try.func79, Try.ntmps79
      go_wp2_with fail
      refine (orput_any n 2 hn (.inr (.inl rfl)) w).mono ?_
      rintro e w2 ⟨rfl, hb⟩
      have q2 := s2 n
      have q1 : (⟨#[253]⟩ : ByteArray).size = 1 := rfl
      go_wp2_with fail
      go_ret
      exact ⟨by rw [HF.out, ← bL_app]; rfl, hb⟩
    · have hz2 : ¬ (n : Int) < 65536 := by omega
      by_cases h3 : n < 4294967296
      · have hz : (n : Int) < 4294967296 := by omega
        have HF := Lib.hid (show vintL n = leB 254 1 ++ leB n 4 by unfold vintL; rw [if_neg h1, if_neg h2, if_pos h3])
        clear h1 h2 h3
        go_enter Try.func79, Try.ntmps79
        go_wp2_with fail
        refine (orput_any n 4 hn (.inr (.inr (.inl rfl))) w).mono ?_
        rintro e w2 ⟨rfl, hb⟩
        have q2 := s4 n
        have q1 : (⟨#[254]⟩ : ByteArray).size = 1 := rfl
        go_wp2_with fail
        go_ret
        exact ⟨by rw [HF.out, ← bL_app]; rfl, hb⟩
      · have hz : ¬ (n : Int) < 4294967296 := by omega
        have HF := Lib.hid (show vintL n = leB 255 1 ++ leB n 8 by unfold vintL; rw [if_neg h1, if_neg h2, if_neg h3])
        clear h1 h2 h3
        go_enter Try.func79, Try.ntmps79
        go_wp2_with fail
        refine (orput_any n 8 hn (.inr (.inr (.inr rfl))) w).mono ?_
        rintro e w2 ⟨rfl, hb⟩
        have q2 := s8 n
        have q1 : (⟨#[255]⟩ : ByteArray).size = 1 := rfl
        go_wp2_with fail
        go_ret
        exact ⟨by rw [HF.out, ← bL_app]; rfl, hb⟩

theorem rlength_any (n : Nat) (hn : n ≤ 9223372036854775807) (w : World) : Calls Try.prog 65 #[.int .i64 n] w (SIs (vintL n) w) := by
  have hlo : (0 : Int) ≤ n := by omega
  have hhi : (n : Int) ≤ 9223372036854775807 := by omega
  go_enter Try.func65, Try.ntmps65
  go_wp2_with fail
  refine (rvput_any n (by omega) w).mono ?_
  rintro e w1 ⟨rfl, hb⟩
  go_wp2_with fail
  go_ret
  exact ⟨rfl, hb⟩
end Go.Proofs.Ytfkcldaogfengaa
