/-
  SHA-256: numbers as bytes, the highest first. Conditions: none beyond each theorem's own.
-/
import Derived.Test.YtmcknjldimnaoaaSha3
import Derived.Laws.OwnMore
namespace Go.Proofs.Ytmcknjldimnaoaa
open Go.RowKit Go.BigFrame
set_option linter.unusedVariables false
set_option linter.unusedSimpArgs false

/-- The lowest so many bytes of a number, the highest first. -/
def beL (n : Nat) : Nat → List UInt8
  | 0 => []
  | i + 1 => UInt8.ofNat (n / 256 ^ i) :: beL n i
theorem beL_len (n k : Nat) : (beL n k).length = k := by induction k with | zero => rfl | succ k ih => simp [beL, ih]

theorem info_u8b : (Try.prog.info? 5).map (fun i => (i.zero, i.size, i.bytes)) = some (some (.int .u8 0), 1, 1) := by kernel_rfl
theorem made_bytes (k : Nat) : (madeCells (Value.int .u8 0).cells (k * 1)).toList = bytesOf (List.replicate k 0) := by
  apply List.ext_getElem
  · simp [madeCells, bytesOf]
  · intro i h1 h2
    simp [madeCells, bytesOf, Value.cells, Nat.mod_one]
theorem bytesOf_set (l : List UInt8) (i : Nat) (b : UInt8) : (bytesOf l).set i (.int .u8 b.toNat) = bytesOf (l.set i b) := by simp [bytesOf, List.map_set]
theorem be_step (n k j : Nat) (h : j < k) : (List.replicate (k - j) (0 : UInt8) ++ beL n j).set (k - 1 - j) (UInt8.ofNat (n / 256 ^ j)) = List.replicate (k - (j + 1)) 0 ++ beL n (j + 1) := by
  obtain ⟨m, rfl⟩ : ∃ m, k = j + 1 + m := ⟨k - (j + 1), by omega⟩
  rw [show j + 1 + m - j = m + 1 by omega, show j + 1 + m - 1 - j = m by omega, show j + 1 + m - (j + 1) = m by omega]
  rw [List.replicate_succ', List.append_assoc, List.set_append_right _ _ (by simp)]
  simp [beL]

set_option maxRecDepth 100000 in
set_option maxHeartbeats 1000000 in
theorem high_any (n k : Nat) (hn : n < 18446744073709551616) (hk : 0 < k ∧ k ≤ 8) (w : World) : Calls Try.prog 94 #[.int .u64 n, .int .i64 k] w fun e w' => e = .returned (.string ⟨(beL n k).toArray⟩) ∧ Below w.heap.size w w' := by
  obtain ⟨i0, hi, hz0, hz1, hz2⟩ := info_parts info_u8b
  obtain ⟨w1, hmk, hown, hg⟩ := run_makeSlice_full (P := Try.prog) w w.heap.size 90 5 i0 _ 1 Try.underlying90 hi hz0 hz1 .i64 .i64 k (by omega) (by rw [hz2]; omega) (by rw [maxLen_eq]; omega) (Nat.le_refl _)
  rw [made_bytes] at hown
  have hb1 : Below w.heap.size w w1 := (Below.refl _ _).grown hg (Nat.le_refl _) (fun k h => by cases h)
  have HOWN := Lib.hid hown
  have HB1 := Lib.hid hb1
  clear hi hz0 hz1 hz2 i0 hown hg hb1
  go_enter Try.func94, Try.ntmps94
  go_wp2_with fail
  clear hmk
  go_loopg [0, 6, 11] k (fun g m _ i wr => ∃ j : Nat, g = k - j ∧ j ≤ k ∧ i = .int .i64 j ∧ m = .int .u64 (n / 256 ^ j : Nat) ∧ Below w.heap.size w wr ∧ wr.ownsRow w.heap.size 5 1 (.slice (some ⟨w.heap.size, 0, none⟩) k k) k (bytesOf (List.replicate (k - j) 0 ++ beL n j)))
  case atStart => exact ⟨0, rfl, by omega, rfl, by simp, HB1.out, by simpa [beL] using HOWN.out⟩
  case round =>
    obtain ⟨j, hgj, hj, rfl, rfl, hbw, how⟩ := hrel
    have HGJ := Lib.hid hgj
    have HBW := Lib.hid hbw
    have HOW := Lib.hid how
    clear hgj hbw how
    by_cases hlt : j < k
    · obtain ⟨m, hm⟩ : ∃ m, k - 1 - j = m := ⟨_, rfl⟩
      have hlen : (bytesOf (List.replicate (k - j) (0 : UInt8) ++ beL n j)).length = k := by rw [bytesOf_length, List.length_append, List.length_replicate, beL_len]; omega
      have hmk : m < k := by omega
      obtain ⟨u, hu⟩ : ∃ u, (bytesOf (List.replicate (k - j) (0 : UInt8) ++ beL n j))[m]? = some u := ⟨_, List.getElem?_eq_getElem (by rw [hlen]; exact hmk)⟩
      have c0 := HOW.out.cells (g := w.heap.size) rfl m u hu
      rw [Addr.add_lit, Nat.zero_add] at c0
      have f0 := ownsRow_free HOW.out m
      have hidx : (k : Int) - 1 - (j : Int) = (m : Int) := by omega
      have hset := ownsRow_set HOW.out (j := m) (by rw [hlen]; exact hmk) (.int .u8 ((UInt8.ofNat (n / 256 ^ j)).toNat : Nat))
      rw [bytesOf_set, ← hm, be_step n k j hlt, hm] at hset
      have HSET := Lib.hid hset
      have hq : n / 256 ^ j < 18446744073709551616 := Nat.lt_of_le_of_lt (Nat.div_le_self _ _) hn
      have hnx : n / 256 ^ (j + 1) = n / 256 ^ j / 256 := by rw [Nat.pow_succ, Nat.div_div_eq_div_mul]
      have HNX := Lib.hid hnx
      clear hset hu hlen hm hnx
      generalize n / 256 ^ j = q at *
      go_wp2_with fail
      go_roundg (k - (j + 1))
      case measure => have := HGJ.out; omega
      case rel =>
        have e : ((UInt8.ofNat q).toNat : Int) = (q : Int) % 256 := by simp
        have h := HSET.out
        rw [e] at h
        exact ⟨j + 1, rfl, by omega, by go_num, by rw [HNX.out]; simp, HBW.out.setCell (Nat.le_refl _) _, h⟩
    · obtain rfl : j = k := by omega
      have hcv := convert_bytes HOW.out
      rw [Nat.sub_self] at hcv
      simp only [List.replicate_zero, List.nil_append] at hcv
      go_wp2
      go_ret
      exact ⟨rfl, HBW.out⟩
end Go.Proofs.Ytmcknjldimnaoaa
