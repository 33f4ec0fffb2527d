/-
  SHA-256: the three laws' walks. Conditions: a text is no longer than a text may be.
-/
import Derived.Test.YtgmcenblkejamaaSha11
namespace Go.Proofs.Ytgmcenblkejamaa
open Go.RowKit Go.BigFrame
set_option linter.unusedVariables false
set_option linter.unusedSimpArgs false

/-- The digest of a text, as a text. -/
def dig (s : ByteArray) : ByteArray := ⟨(sumL s.data.toList).toArray⟩
theorem dig_size (s : ByteArray) : (dig s).size = 32 := by unfold dig; rw [mk_size, sumL_len]
theorem sumd (s : ByteArray) (hs : s.size ≤ 1099511627776) (w : World) : Calls Try.prog 7 #[.string s] w fun e w' => e = .returned (.string (dig s)) ∧ Below w.heap.size w w' := sum_any s hs w
theorem rsumd (s : ByteArray) (hs : s.size ≤ 1099511627776) (w : World) : Calls Try.prog 8 #[.string s] w fun e w' => e = .returned (.string (dig s)) ∧ Below w.heap.size w w' := rsum_any s hs w
theorem dig_abc : dig ⟨#[97, 98, 99]⟩ = ⟨#[186, 120, 22, 191, 143, 1, 207, 234, 65, 65, 64, 222, 93, 174, 34, 35, 176, 3, 97, 163, 150, 23, 122, 156, 180, 16, 255, 97, 242, 0, 21, 173]⟩ := by
  unfold dig
  rw [show (ByteArray.mk #[97, 98, 99]).data.toList = [97, 98, 99] from rfl, sum_abc]

set_option maxRecDepth 100000 in
set_option maxHeartbeats 1000000 in
theorem wakes_any (w : World) : Calls Try.prog 6 #[] w fun e w' => e = .returned (.bool true) ∧ Below w.heap.size w w' := by
  have h := sumd ⟨#[97, 98, 99]⟩ (by decide) w
  rw [dig_abc] at h
  go_enter Try.func6, Try.ntmps6
  go_wp2_with fail
  refine h.mono ?_
  rintro e w' ⟨rfl, hb⟩
  have HB := Lib.hid hb
  clear hb h
  go_wp2_with fail
  go_ret
  exact ⟨rfl, HB.out⟩

set_option maxRecDepth 100000 in
set_option maxHeartbeats 1000000 in
theorem twice_any (s : ByteArray) (hs : s.size ≤ 1099511627776) (w : World) : Calls Try.prog 9 #[.string s] w fun e w' => e = .returned (.string (dig (dig s))) ∧ Below w.heap.size w w' := by
  go_enter Try.func9, Try.ntmps9
  go_wp2_with fail
  refine (sumd s hs w).mono ?_
  rintro e w1 ⟨rfl, hb⟩
  have HB := Lib.hid hb
  clear hb
  go_wp2_with fail
  refine (sumd (dig s) (by rw [dig_size]; omega) w1).mono ?_
  rintro e w2 ⟨rfl, hb⟩
  have HB2 := Lib.hid (HB.out.trans (hb.mono HB.out.size))
  clear hb
  go_wp2_with fail
  go_ret
  exact ⟨rfl, HB2.out⟩
set_option maxRecDepth 100000 in
set_option maxHeartbeats 1000000 in
theorem rtwice_any (s : ByteArray) (hs : s.size ≤ 1099511627776) (w : World) : Calls Try.prog 10 #[.string s] w fun e w' => e = .returned (.string (dig (dig s))) ∧ Below w.heap.size w w' := by
  go_enter Try.func10, Try.ntmps10
  go_wp2_with fail
  refine (rsumd s hs w).mono ?_
  rintro e w1 ⟨rfl, hb⟩
  have HB := Lib.hid hb
  clear hb
  go_wp2_with fail
  refine (rsumd (dig s) (by rw [dig_size]; omega) w1).mono ?_
  rintro e w2 ⟨rfl, hb⟩
  have HB2 := Lib.hid (HB.out.trans (hb.mono HB.out.size))
  clear hb
  go_wp2_with fail
  go_ret
  exact ⟨rfl, HB2.out⟩

set_option maxRecDepth 100000 in
set_option maxHeartbeats 1000000 in
theorem shaSums_walk (s : ByteArray) (w : World) (hs : s.size ≤ maxLen) : Calls Try.prog 3 #[.string s] w fun e w' => e = .returned (.bool true) ∧ Below w.heap.size w w' := by
  rw [maxLen_eq] at hs
  obtain ⟨m, hm⟩ : ∃ m, m = min s.size 1000 := ⟨_, rfl⟩
  have hm1 : m ≤ s.size := by omega
  have hm2 : m ≤ 1000 := by omega
  have hmi : min (s.size : Int) 1000 = (m : Int) := by omega
  have hxs : (s.extract 0 m).size = m := by rw [ByteArray.size_extract]; omega
  have HX := Lib.hid hxs
  clear hm hxs
  go_enter Try.func3, Try.ntmps3
  go_wp2_with fail
  refine (wakes_any w).mono ?_
  rintro e w1 ⟨rfl, hb⟩
  have HB := Lib.hid hb
  clear hb
  go_wp2_with fail
  refine (sumd (s.extract 0 m) (by have := HX.out; omega) w1).mono ?_
  rintro e w2 ⟨rfl, hb⟩
  have HB2 := Lib.hid (HB.out.trans (hb.mono HB.out.size))
  clear hb
  go_wp2_with fail
  refine (rsumd (s.extract 0 m) (by have := HX.out; omega) w2).mono ?_
  rintro e w3 ⟨rfl, hb⟩
  have HB3 := Lib.hid (HB2.out.trans (hb.mono HB2.out.size))
  clear hb
  go_wp2_with fail
  go_ret
  exact ⟨rfl, HB3.out⟩

set_option maxRecDepth 100000 in
set_option maxHeartbeats 1000000 in
theorem shaTwice_walk (s : ByteArray) (w : World) (hs : s.size ≤ maxLen) : Calls Try.prog 5 #[.string s] w fun e w' => e = .returned (.bool true) ∧ Below w.heap.size w w' := by
  rw [maxLen_eq] at hs
  obtain ⟨m, hm⟩ : ∃ m, m = min s.size 1000 := ⟨_, rfl⟩
  have hm1 : m ≤ s.size := by omega
  have hm2 : m ≤ 1000 := by omega
  have hmi : min (s.size : Int) 1000 = (m : Int) := by omega
  have hxs : (s.extract 0 m).size = m := by rw [ByteArray.size_extract]; omega
  have HX := Lib.hid hxs
  clear hm hxs
  go_enter Try.func5, Try.ntmps5
  go_wp2_with fail
  refine (twice_any (s.extract 0 m) (by have := HX.out; omega) w).mono ?_
  rintro e w0 ⟨rfl, hb⟩
  have HB0 := Lib.hid hb
  clear hb
  go_wp2_with fail
  refine (wakes_any w0).mono ?_
  rintro e w1 ⟨rfl, hb⟩
  have HB := Lib.hid (HB0.out.trans (hb.mono HB0.out.size))
  clear hb
  go_wp2_with fail
  refine (rtwice_any (s.extract 0 m) (by have := HX.out; omega) w1).mono ?_
  rintro e w2 ⟨rfl, hb⟩
  have HB2 := Lib.hid (HB.out.trans (hb.mono HB.out.size))
  clear hb
  go_wp2_with fail
  refine (sumd (s.extract 0 m) (by have := HX.out; omega) w2).mono ?_
  rintro e w3 ⟨rfl, hb⟩
  have HB3 := Lib.hid (HB2.out.trans (hb.mono HB2.out.size))
  clear hb
  go_wp2_with fail
  refine (sumd (dig (s.extract 0 m)) (by rw [dig_size]; omega) w3).mono ?_
  rintro e w4 ⟨rfl, hb⟩
  have HB4 := Lib.hid (HB3.out.trans (hb.mono HB3.out.size))
  have hds := dig_size (dig (s.extract 0 m))
  clear hb
  go_wp2_with fail
  go_ret
  exact ⟨rfl, HB4.out⟩

set_option maxRecDepth 100000 in
set_option maxHeartbeats 1000000 in
theorem shaLengths_nat (s : ByteArray) (n : Nat) (w : World) (hs : s.size ≤ maxLen) (hn : n < 65536) : Calls Try.prog 4 #[.string s, .int .u16 n] w fun e w' => e = .returned (.bool true) ∧ Below w.heap.size w w' := by
  rw [maxLen_eq] at hs
  obtain ⟨m, hm⟩ : ∃ m, m = min s.size 300 := ⟨_, rfl⟩
  have hm1 : m ≤ s.size := by omega
  have hm2 : m ≤ 300 := by omega
  have hmi : min (s.size : Int) 300 = (m : Int) := by omega
  obtain ⟨X, hX⟩ : ∃ X, X = s.extract 0 m := ⟨_, rfl⟩
  have hxs : X.size = m := by rw [hX, ByteArray.size_extract]; omega
  have HX := Lib.hid hX
  have HXS := Lib.hid hxs
  obtain ⟨i0, hi, hz0, hz1, hz2⟩ := info_parts info_u8b
  obtain ⟨w1, hmk, hown, hg⟩ := run_makeSlice_full (P := Try.prog) w w.heap.size 26 5 i0 _ 1 Try.underlying26 hi hz0 hz1 .i64 .i64 400 (by omega) (by rw [hz2]; omega) (by rw [maxLen_eq]; omega) (Nat.le_refl _)
  rw [made_bytes] at hown
  have hmk2 : (Instr.makeSlice 26 (.int .i64 400) (.int .i64 400)).run Try.prog w = _ := hmk
  have hb1 : Below w.heap.size w w1 := (Below.refl w.heap.size w).grown hg (Nat.le_refl _) (fun k h => by cases h)
  have hcv := convert_bytes hown
  obtain ⟨Z, hZ⟩ : ∃ Z : ByteArray, Z = ⟨(List.replicate 400 (0 : UInt8)).toArray⟩ := ⟨_, rfl⟩
  have hzs : Z.size = 400 := by rw [hZ, mk_size, List.length_replicate]
  rw [← hZ] at hcv
  have HB1 := Lib.hid hb1
  clear hmk hm hX hxs hi hz0 hz1 hz2 hown hg hb1 hZ
  obtain ⟨q, hq⟩ : ∃ q, q = n % (m + 391) := ⟨_, rfl⟩
  have hql : q < m + 391 := by rw [hq]; exact Nat.mod_lt _ (by omega)
  have hqi : (n : Int) % ((m : Int) + 400 - 9) = (q : Int) := by
    rw [show (m : Int) + 400 - 9 = ((m + 391 : Nat) : Int) by omega, hq, Int.natCast_emod]
  go_enter Try.func4, Try.ntmps4
  go_upto_region 2 with fail
  rw [← HX.out]
  have hxs := HXS.out
  go_wp2_with fail
  obtain ⟨T, hT⟩ : ∃ T, T = X ++ Z := ⟨_, rfl⟩
  have hTs : T.size = m + 400 := by rw [hT, ByteArray.size_append, hzs, hxs]
  rw [← hT]
  have HTS := Lib.hid hTs
  clear hmk2 hcv hT hq
  go_loopg [17] 9 (fun g i wr => ∃ k : Nat, g = 9 - k ∧ k ≤ 9 ∧ i = .int .i64 (k : Int) ∧ Below w.heap.size w wr)
  case atStart => exact ⟨0, rfl, by omega, rfl, HB1.out⟩
  case round =>
    clear HB1
    rename World => wa
    obtain ⟨k, hgk, hk, rfl, hbel⟩ := hrel
    have HGK := Lib.hid hgk
    have HB := Lib.hid hbel
    clear hgk hbel
    by_cases hlt : k < 9
    · have hts := HTS.out
      have hle : q + k ≤ m + 400 := by omega
      go_wp2_with fail
      have hds : (T.extract 0 (q + k)).size ≤ 1099511627776 := by rw [ByteArray.size_extract]; omega
      refine (sumd (T.extract 0 (q + k)) hds wa).mono ?_
      rintro e w2 ⟨rfl, hb⟩
      have HB2 := Lib.hid (HB.out.trans (hb.mono HB.out.size))
      clear hb
      go_wp2_with fail
      refine (rsumd (T.extract 0 (q + k)) hds w2).mono ?_
      rintro e w3 ⟨rfl, hb⟩
      have HB3 := Lib.hid (HB2.out.trans (hb.mono HB2.out.size))
      clear hb hds
      go_wp2_with fail
      go_roundg (9 - (k + 1))
      case measure => have := HGK.out; omega
      case rel => exact ⟨k + 1, rfl, by omega, by go_num, HB3.out⟩
    · obtain rfl : k = 9 := by omega
      go_wp2_with fail
      refine (wakes_any wa).mono ?_
      rintro e w2 ⟨rfl, hb⟩
      have HB2 := Lib.hid (HB.out.trans (hb.mono HB.out.size))
      clear hb
      go_wp2_with fail
      go_ret
      exact ⟨rfl, HB2.out⟩
theorem wf_u16 {n : Int} (h : (Lit.int .u16 n).wf = true) : 0 ≤ n ∧ n ≤ 65535 := by simpa [Lit.wf, IntKind.min, IntKind.max, IntKind.signed, IntKind.bits] using h
theorem shaLengths_walk (s : ByteArray) (x : Int) (w : World) (hs : s.size ≤ maxLen) (hx : (Lit.int .u16 x).wf = true) : Calls Try.prog 4 #[.string s, .int .u16 x] w fun e w' => e = .returned (.bool true) ∧ Below w.heap.size w w' := by
  have h := wf_u16 hx
  obtain ⟨n, rfl⟩ : ∃ n : Nat, x = (n : Int) := ⟨x.toNat, by omega⟩
  exact shaLengths_nat s n w hs (by omega)
end Go.Proofs.Ytgmcenblkejamaa
