/-
  Locks, the second part: the document's Put, both Gets. Conditions: none beyond each theorem's own.
-/
import Derived.Test.YtiicigpndagecaaLock
namespace Go.Proofs.Ytiicigpndagecaa
open Go.RowKit
set_option linter.unusedVariables false

set_option maxRecDepth 100000 in
set_option maxHeartbeats 1000000 in
theorem rlput_any (v : Value) (xs : List PBr) (w : World) (hv : SlAt rpBr w v xs) : Calls Try.prog 19 #[v] w (LockPutIs xs w) := by
  obtain ⟨a, c, rfl, hl1, hl2⟩ := hv.shape
  rw [maxLen_eq] at hl2
  obtain ⟨n, hn⟩ : ∃ n, n = xs.length := ⟨_, rfl⟩
  rw [← hn] at hl1 hv ⊢
  have HN := Lib.hid hn
  clear hn
  by_cases h1 : n < 1
  · clear hv
    go_enter Try.func19, Try.ntmps19
    go_wp2
    go_ret2
    exact lockPut_is (lockPut_count (.inl (HN.out ▸ h1))) (Below.refl _ _)
  by_cases h3 : 3 < n
  · clear hv
    go_enter Try.func19, Try.ntmps19
    go_wp2
    go_ret2
    exact lockPut_is (lockPut_count (.inr (HN.out ▸ h3))) (Below.refl _ _)
  have hcnt : ¬ (xs.length < 1 ∨ 3 < xs.length) := by rw [← HN.out]; omega
  have HCNT := Lib.hid hcnt
  clear hcnt
  have hone := one_byte w n
  rw [Int.emod_eq_of_lt (by omega) (by omega)] at hone
  have hlb : leB n 1 = [UInt8.ofNat n] := by simp [leB]
  have HLB := Lib.hid hlb
  have hb0 : Below w.heap.size w (w.alloc (.cells #[.int .u8 (n : Int)] 5)) := (Below.refl _ _).alloc (Nat.le_refl _) _
  have HB0 := Lib.hid hb0
  clear hlb hb0
  go_enter Try.func19, Try.ntmps19
  go_wp2_with fail
  go_loopw [4, 5, 6, 7, 8] (fun out i _ _ _ wr => ∃ k : Nat, k ≤ n ∧ i = .int .i64 k ∧ Below w.heap.size w wr ∧ out = .string ⟨(leB n 1 ++ (xs.take k).flatMap putBr).toArray⟩ ∧ (xs.take k).any tooHigh = false) (fun _ i _ _ _ _ => n - (intOf i).toNat)
  case atStart => exact ⟨0, Nat.zero_le _, rfl, HB0.out, by rw [HLB.out]; simp, by simp⟩
  case round =>
    obtain ⟨k, hk, rfl, hbw, rfl, hok⟩ := hrel
    by_cases hlt : k < n
    · obtain ⟨b, o, x, rfl, hx, hxo, hc0, hc1, hc2⟩ := (hv.mono (below_cells hbw)).br hlt
      obtain ⟨ht1, ht2, ht3⟩ := hxo
      obtain ⟨tg, dl, hg⟩ := x
      dsimp only at hc0 hc1 hc2 ht1 ht2 ht3
      by_cases hh : 1000000 < hg
      · have hany : xs.any tooHigh = true := by
          rw [List.any_eq_true]
          exact ⟨_, List.mem_of_getElem? hx, by simp [tooHigh, hh]⟩
        have HA := Lib.hid hany
        have HF := Lib.hid hbw
        clear hany hx hok hbw
        go_wp2
        go_ret2
        exact lockPut_is (lockPut_range HCNT.out HA.out) HF.out
      · have HX := Lib.hid hx
        have HO := Lib.hid hok
        have HW := Lib.hid hbw
        obtain ⟨L, hL⟩ : ∃ L, L = (xs.take k).flatMap putBr := ⟨_, rfl⟩
        have hLl : (L.length : Int) ≤ 24 := by
          rw [hL, putBrs_len, List.length_take]
          omega
        rw [← hL]
        have HL := Lib.hid hL
        clear hx hok hbw hv hL
        go_wp2_with fail
        refine (rput_any tg 2 (by omega) (.inr (.inl rfl)) _).mono ?_
        rintro e w1 ⟨rfl, hb1⟩
        have hd0 := below_cells hb1 _ _ hc0
        have hd1 := below_cells hb1 _ _ hc1
        have hd2 := below_cells hb1 _ _ hc2
        have HB1 := Lib.hid hb1
        clear hc0 hc1 hc2 hb1
        go_wp2_with fail
        refine (rput_any dl 2 (by omega) (.inr (.inl rfl)) _).mono ?_
        rintro e w2 ⟨rfl, hb2⟩
        have hc2 := below_cells hb2 _ _ hd2
        have HB2 := Lib.hid hb2
        clear hd0 hd1 hd2 hb2
        go_wp2_with fail
        refine (rput_any hg 4 (by omega) (.inr (.inr (.inl rfl))) _).mono ?_
        rintro e w3 ⟨rfl, hb3⟩
        have HB3 := Lib.hid hb3
        clear hc2 hb3
        go_wp2
        go_roundw
        case rel =>
          have b1 := HB1.out
          have b2 := HB2.out
          have b3 := HB3.out
          have h12 := b1.trans (b2.mono b1.size)
          have h13 := h12.trans (b3.mono h12.size)
          refine ⟨k + 1, by omega, by go_num, HW.out.trans (h13.mono HW.out.size), ?_, ?_⟩
          · have : (xs.take (k + 1)).flatMap putBr = L ++ (leB tg 2 ++ leB dl 2 ++ leB hg 4) := by
              rw [List.take_add_one, HX.out, HL.out]; simp [putBr]
            rw [this]
            simp
          · rw [List.take_add_one, HX.out]
            simp [HO.out, tooHigh]
            omega
        case measure => simp [intOf]; omega
    · obtain rfl : k = n := by omega
      have hall : xs.any tooHigh = false := by rw [HN.out, List.take_length] at hok; exact hok
      have HA := Lib.hid hall
      have hE : leB k 1 ++ (xs.take k).flatMap putBr = leB k 1 ++ xs.flatMap putBr := by rw [HN.out, List.take_length]
      rw [hE]
      have HW := Lib.hid hbw
      clear hok hall hv hE hbw
      go_wp2
      go_ret2
      have hp := lockPut_ok HCNT.out HA.out
      rw [← HN.out] at hp
      exact lockPut_is hp HW.out

/-- The number that stands in so many bytes. -/
theorem number_any (s : ByteArray) (p k : Nat) (hk : okSize k) (hs : s.size ≤ 9223372036854775807) (h : p + k ≤ s.size) (w : World) :
    Calls Try.prog 35 #[.string s, .int .i64 p, .int .i64 k] w fun e w' => e = .returned (.int .u64 (getN s p k)) ∧ Below w.heap.size w w' := by
  have hg := get_yes s p k hk hs h w
  have HG := Lib.hid hg
  clear hg hk
  go_enter Try.func35, Try.ntmps35
  go_wp2_with fail
  refine HG.out.mono ?_
  rintro e w1 ⟨rfl, hb1⟩
  go_wp2
  go_ret
  exact ⟨rfl, hb1⟩

end Go.Proofs.Ytiicigpndagecaa
