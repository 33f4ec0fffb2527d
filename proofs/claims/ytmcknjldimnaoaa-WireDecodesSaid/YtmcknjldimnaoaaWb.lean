/-
  vint.Put, counted, sized; a builder's parts. Conditions: those of each theorem.
-/
import Derived.Test.YtmcknjldimnaoaaWa
import Derived.Test.YtmcknjldimnaoaaWx
namespace Go.Proofs.Ytmcknjldimnaoaa
open Go.RowKit Go.BigFrame
set_option linter.unusedVariables false
set_option linter.unusedSimpArgs false

def SIs (l : List UInt8) (w : World) (e : Ending) (w' : World) : Prop := e = .returned (.string (bL l)) ∧ Below w.heap.size w w'
theorem oput_any (n k : Nat) (hn : n < 18446744073709551616) (hk : okSize k) (w : World) : Calls Try.prog 66 #[.int .u64 n, .int .i64 k] w (SIs (leB n k) w) := put_any n k hn hk w
set_option maxHeartbeats 1000000 in
theorem vput_any (n : Nat) (hn : n < 18446744073709551616) (w : World) : Calls Try.prog 105 #[.int .u64 n] w (SIs (vintL n) w) := by
  have s1 : ∀ m, (bL (leB m 1)).size = 1 := fun m => by rw [bL_size, leB_length]
  have s2 : ∀ m, (bL (leB m 2)).size = 2 := fun m => by rw [bL_size, leB_length]
  have s4 : ∀ m, (bL (leB m 4)).size = 4 := fun m => by rw [bL_size, leB_length]
  have s8 : ∀ m, (bL (leB m 8)).size = 8 := fun m => by rw [bL_size, leB_length]
  by_cases h1 : n < 253
  · have hz : (n : Int) < 253 := by omega
    have HF := Lib.hid (show vintL n = leB n 1 by unfold vintL; rw [if_pos h1])
    clear h1
    go_enter Try.func105, Try.ntmps105
    go_wp2_with fail
    refine (oput_any n 1 hn (.inl rfl) w).mono ?_
    rintro e w1 ⟨rfl, hb⟩
    go_wp2_with fail
    go_ret
    exact ⟨by rw [HF.out]; rfl, hb⟩
  · have hz1 : ¬ (n : Int) < 253 := by omega
    by_cases h2 : n < 65536
    · have hz : (n : Int) < 65536 := by omega
      have HF := Lib.hid (show vintL n = leB 253 1 ++ leB n 2 by unfold vintL; rw [if_neg h1, if_pos h2])
      clear h1 h2
      go_enter Try.func105, Try.ntmps105
      go_wp2_with fail
      refine (oput_any 253 1 (by omega) (.inl rfl) w).mono ?_
      rintro e w1 ⟨rfl, hb⟩
      have HB := Lib.hid hb
      clear hb
      go_wp2_with fail
      refine (oput_any n 2 hn (.inr (.inl rfl)) w1).mono ?_
      rintro e w2 ⟨rfl, hb⟩
      have q1 := s1 253
      have q2 := s2 n
      go_wp2_with fail
      go_ret
      exact ⟨by rw [HF.out, ← bL_app]; rfl, HB.out.trans (hb.mono HB.out.size)⟩
    · have hz2 : ¬ (n : Int) < 65536 := by omega
      by_cases h3 : n < 4294967296
      · have hz : (n : Int) < 4294967296 := by omega
        have HF := Lib.hid (show vintL n = leB 254 1 ++ leB n 4 by unfold vintL; rw [if_neg h1, if_neg h2, if_pos h3])
        clear h1 h2 h3
        go_enter Try.func105, Try.ntmps105
        go_wp2_with fail
        refine (oput_any 254 1 (by omega) (.inl rfl) w).mono ?_
        rintro e w1 ⟨rfl, hb⟩
        have HB := Lib.hid hb
        clear hb
        go_wp2_with fail
        refine (oput_any n 4 hn (.inr (.inr (.inl rfl))) w1).mono ?_
        rintro e w2 ⟨rfl, hb⟩
        have q1 := s1 254
        have q2 := s4 n
        go_wp2_with fail
        go_ret
        exact ⟨by rw [HF.out, ← bL_app]; rfl, HB.out.trans (hb.mono HB.out.size)⟩
      · have hz : ¬ (n : Int) < 4294967296 := by omega
        have HF := Lib.hid (show vintL n = leB 255 1 ++ leB n 8 by unfold vintL; rw [if_neg h1, if_neg h2, if_neg h3])
        clear h1 h2 h3
        go_enter Try.func105, Try.ntmps105
        go_wp2_with fail
        refine (oput_any 255 1 (by omega) (.inl rfl) w).mono ?_
        rintro e w1 ⟨rfl, hb⟩
        have HB := Lib.hid hb
        clear hb
        go_wp2_with fail
        refine (oput_any n 8 hn (.inr (.inr (.inr rfl))) w1).mono ?_
        rintro e w2 ⟨rfl, hb⟩
        have q1 := s1 255
        have q2 := s8 n
        go_wp2_with fail
        go_ret
        exact ⟨by rw [HF.out, ← bL_app]; rfl, HB.out.trans (hb.mono HB.out.size)⟩
theorem orput_any (n k : Nat) (hn : n < 18446744073709551616) (hk : okSize k) (w : World) : Calls Try.prog 53 #[.int .u64 n, .int .i64 k] w (SIs (leB n k) w) := rput_any n k hn hk w
set_option maxHeartbeats 1000000 in
theorem rvput_any (n : Nat) (hn : n < 18446744073709551616) (w : World) : Calls Try.prog 85 #[.int .u64 n] w (SIs (vintL n) w) := by
  have s1 : ∀ m, (bL (leB m 1)).size = 1 := fun m => by rw [bL_size, leB_length]
  have s2 : ∀ m, (bL (leB m 2)).size = 2 := fun m => by rw [bL_size, leB_length]
  have s4 : ∀ m, (bL (leB m 4)).size = 4 := fun m => by rw [bL_size, leB_length]
  have s8 : ∀ m, (bL (leB m 8)).size = 8 := fun m => by rw [bL_size, leB_length]
  by_cases h1 : n < 253
  · have hz : (n : Int) < 253 := by omega
    have HF := Lib.hid (show vintL n = leB n 1 by unfold vintL; rw [if_pos h1])
    clear h1
    go_enter Try.func85, Try.ntmps85
    go_wp2_with fail
    refine (orput_any n 1 hn (.inl rfl) w).mono ?_
    rintro e w1 ⟨rfl, hb⟩
    go_wp2_with fail
    go_ret
    exact ⟨by rw [HF.out]; rfl, hb⟩
  · have hz1 : ¬ (n : Int) < 253 := by omega
    by_cases h2 : n < 65536
    · have hz : (n : Int) < 65536 := by omega
      have HF := Lib.hid (show vintL n = leB 253 1 ++ leB n 2 by unfold vintL; rw [if_neg h1, if_pos h2])
      clear h1 h2
      go_enter Try.func85, Try.ntmps85
      go_wp2_with fail
      refine (orput_any n 2 hn (.inr (.inl rfl)) w).mono ?_
      rintro e w2 ⟨rfl, hb⟩
      have q2 := s2 n
      have q1 : (⟨#[253]⟩ : ByteArray).size = 1 := rfl
      go_wp2_with fail
      go_ret
      exact ⟨by rw [HF.out, ← bL_app]; rfl, hb⟩
    · have hz2 : ¬ (n : Int) < 65536 := by omega
      by_cases h3 : n < 4294967296
      · have hz : (n : Int) < 4294967296 := by omega
        have HF := Lib.hid (show vintL n = leB 254 1 ++ leB n 4 by unfold vintL; rw [if_neg h1, if_neg h2, if_pos h3])
        clear h1 h2 h3
        go_enter Try.func85, Try.ntmps85
        go_wp2_with fail
        refine (orput_any n 4 hn (.inr (.inr (.inl rfl))) w).mono ?_
        rintro e w2 ⟨rfl, hb⟩
        have q2 := s4 n
        have q1 : (⟨#[254]⟩ : ByteArray).size = 1 := rfl
        go_wp2_with fail
        go_ret
        exact ⟨by rw [HF.out, ← bL_app]; rfl, hb⟩
      · have hz : ¬ (n : Int) < 4294967296 := by omega
        have HF := Lib.hid (show vintL n = leB 255 1 ++ leB n 8 by unfold vintL; rw [if_neg h1, if_neg h2, if_neg h3])
        clear h1 h2 h3
        go_enter Try.func85, Try.ntmps85
        go_wp2_with fail
        refine (orput_any n 8 hn (.inr (.inr (.inr rfl))) w).mono ?_
        rintro e w2 ⟨rfl, hb⟩
        have q2 := s8 n
        have q1 : (⟨#[255]⟩ : ByteArray).size = 1 := rfl
        go_wp2_with fail
        go_ret
        exact ⟨by rw [HF.out, ← bL_app]; rfl, hb⟩

theorem counted_any (n : Nat) (hn : n ≤ 9223372036854775807) (w : World) : Calls Try.prog 67 #[.int .i64 n] w (SIs (vintL n) w) := by
  have hlo : (0 : Int) ≤ n := by omega
  have hhi : (n : Int) ≤ 9223372036854775807 := by omega
  go_enter Try.func67, Try.ntmps67
  go_wp2_with fail
  refine (vput_any n (by omega) w).mono ?_
  rintro e w1 ⟨rfl, hb⟩
  go_wp2_with fail
  go_ret
  exact ⟨rfl, hb⟩
theorem rlength_any (n : Nat) (hn : n ≤ 9223372036854775807) (w : World) : Calls Try.prog 54 #[.int .i64 n] w (SIs (vintL n) w) := by
  have hlo : (0 : Int) ≤ n := by omega
  have hhi : (n : Int) ≤ 9223372036854775807 := by omega
  go_enter Try.func54, Try.ntmps54
  go_wp2_with fail
  refine (rvput_any n (by omega) w).mono ?_
  rintro e w1 ⟨rfl, hb⟩
  go_wp2_with fail
  go_ret
  exact ⟨rfl, hb⟩
theorem sized_any (s : ByteArray) (hs : s.size ≤ 1000000) (w : World) : Calls Try.prog 68 #[.string s] w (SIs (sizedL s) w) := by
  have q1 : (bL (vintL s.size)).size ≤ 9 := by rw [bL_size]; exact vintL_le _
  go_enter Try.func68, Try.ntmps68
  go_wp2_with fail
  refine (counted_any s.size (by omega) w).mono ?_
  rintro e w1 ⟨rfl, hb⟩
  go_wp2_with fail
  go_ret
  exact ⟨by unfold sizedL; rw [← bL_app, bL_data]; rfl, hb⟩
/-- A builder has one part more. -/
def BPut (B b : Nat) (l : List UInt8) (w : World) (w' : World) : Prop := Lib.IsBuilder 95 5 B b (bytesOf l) w' ∧ Below B w w' ∧ BKeep b w w'
theorem eput_any (B b n k : Nat) (l : List UInt8) (hn : n < 18446744073709551616) (hk : okSize k) (w : World) (h : Lib.IsBuilder 95 5 B b (bytesOf l) w) (hl : l.length ≤ 1000000) (hB : B ≤ w.heap.size) :
    Calls Try.prog 64 #[.int .u64 n, .int .i64 k, .pointer (some ⟨b, 0, none⟩)] w fun e w' => (∃ v, e = .returned v) ∧ BPut B b (l ++ leB n k) w w' := by
  have HI := Lib.hid h
  have HBB := Lib.hid hB
  have hk8 : k ≤ 8 := by unfold okSize at hk; omega
  clear h hB
  go_enter Try.func64, Try.ntmps64
  go_wp2_with fail
  refine (oput_any n k hn hk w).mono ?_
  rintro e w1 ⟨rfl, hb⟩
  go_wp2_with fail
  refine (bwrite_x B b l (bL (leB n k)) w1 (isb_later HI.out hb) (by rw [bL_size, leB_length]; omega) (Nat.le_trans HBB.out hb.size)).mono ?_
  rintro e w2 ⟨rfl, hi, hb2, hk2⟩
  rw [bL_list] at hi
  have HF := Lib.hid (show BPut B b (l ++ leB n k) w w2 from ⟨hi, (hb.mono HBB.out).trans hb2, (BKeep.of_below hb (isb_lt HI.out).2).trans hk2⟩)
  clear hi hb hb2 hk2
  go_wp2_with fail
  exact bodyPost_end (v := .tuple #[]) (by kernel_rfl) rfl ⟨⟨_, rfl⟩, HF.out⟩
end Go.Proofs.Ytmcknjldimnaoaa
