/-
  vint.Get: the program's and the document's. Conditions: the place is in the text.
-/
import Derived.Test.YtmcknjldimnaoaaWq
import Derived.Test.YtmcknjldimnaoaaWb
namespace Go.Proofs.Ytmcknjldimnaoaa
open Go.RowKit Go.BigFrame
set_option linter.unusedVariables false
set_option linter.unusedSimpArgs false

theorem getN_pt (s : ByteArray) (p k : Nat) : getN s p k = leN (pt s.data.toList p k) := rfl
theorem byteAt_get {s : ByteArray} {p : Nat} (h : p < s.size) : byteAt s.data.toList p = (s[p]'h).toNat := by
  unfold byteAt
  have h1 : p < s.data.toList.length := by rw [data_len]; exact h
  rw [List.getD_eq_getElem?_getD, List.getElem?_eq_getElem h1]
  rfl
theorem kOf_cases (b : Nat) : (kOf b = 0 ∧ b ≠ 253 ∧ b ≠ 254 ∧ b ≠ 255) ∨ (b = 253 ∧ kOf b = 2) ∨ (b = 254 ∧ kOf b = 4) ∨ (b = 255 ∧ kOf b = 8) := by
  unfold kOf
  split
  · exact .inr (.inl ⟨by assumption, rfl⟩)
  · split
    · exact .inr (.inr (.inl ⟨by assumption, rfl⟩))
    · split
      · exact .inr (.inr (.inr ⟨by assumption, rfl⟩))
      · exact .inl ⟨rfl, by assumption, by assumption, by assumption⟩
theorem kOf_ok {b : Nat} (h : kOf b ≠ 0) : okSize (kOf b) := by
  unfold okSize
  rcases kOf_cases b with h1 | h1 | h1 | h1 <;> omega
theorem kOf_le (b : Nat) : kOf b ≤ 8 := by rcases kOf_cases b with h1 | h1 | h1 | h1 <;> omega
theorem getN_lt {s : ByteArray} {p k : Nat} (hk : k ≤ 8) : getN s p k < 18446744073709551616 := by
  have h := leN_lt ((s.data.toList.drop p).take k)
  have h2 : ((s.data.toList.drop p).take k).length ≤ k := by rw [List.length_take]; omega
  have h3 : (256 : Nat) ^ ((s.data.toList.drop p).take k).length ≤ 256 ^ 8 := Nat.pow_le_pow_right (by omega) (by omega)
  unfold getN
  omega
set_option maxHeartbeats 1000000 in
theorem vsize_any (b : Nat) (w : World) : Calls Try.prog 123 #[.int .u8 b] w fun e w' => e = .returned (.int .i64 (kOf b)) ∧ w = w' := by
  rcases kOf_cases b with ⟨h, h1, h2, h3⟩ | ⟨rfl, h⟩ | ⟨rfl, h⟩ | ⟨rfl, h⟩
  · have e1 : ((b : Int) == 253) = false := by rw [beq_eq_false_iff_ne]; omega
    have e2 : ((b : Int) == 254) = false := by rw [beq_eq_false_iff_ne]; omega
    have e3 : ((b : Int) == 255) = false := by rw [beq_eq_false_iff_ne]; omega
    rw [h]
    clear h h1 h2 h3
    go_enter Try.func123, Try.ntmps123
    go_wp2
    go_ret
    exact ⟨rfl, rfl⟩
  all_goals
    go_enter Try.func123, Try.ntmps123
    go_wp2
    go_ret
    exact ⟨rfl, rfl⟩
def VIs (r : Nat × Nat × Int) (w : World) (e : Ending) (w' : World) : Prop := e = .returned (.tuple #[.int .u64 r.1, .int .i64 r.2.1, .int .i64 r.2.2]) ∧ Below w.heap.size w w'
theorem ret_v {a b : Nat} {c : Int} {r : Nat × Nat × Int} (h : r = (a, b, c)) : Ending.returned (.tuple #[.int .u64 a, .int .i64 b, .int .i64 c]) = .returned (.tuple #[.int .u64 r.1, .int .i64 r.2.1, .int .i64 r.2.2]) := by rw [h]

set_option maxRecDepth 100000 in
set_option maxHeartbeats 2000000 in
theorem vget_any (s : ByteArray) (p : Nat) (w : World) (hs : s.size ≤ 9223372036854775000) (hp : p ≤ s.size) : Calls Try.prog 108 #[.string s, .int .i64 p] w (VIs (vgetL s.data.toList p) w) := by
  have hp0 : (0 : Int) ≤ (p : Int) := by omega
  have hp1 : (p : Int) ≤ (s.size : Int) := by omega
  have hln := data_len s
  by_cases hpe : p = s.size
  · have HF := Lib.hid (show vgetL s.data.toList p = (0, 0, 5) by unfold vgetL; rw [if_pos (by omega)])
    have HB0 := Lib.hid (Below.refl w.heap.size w)
    have hpi : (p : Int) = (s.size : Int) := by omega
    clear hpe hln
    go_enter Try.func108, Try.ntmps108
    go_wp2_with fail
    exact bodyPost_ret (v := .tuple #[.int .u64 ((0 : Nat)), .int .i64 ((0 : Nat)), .int .i64 5]) (by simp [results, Try.results108, go_sem]) rfl ⟨ret_v HF.out, HB0.out⟩
  · have hlt : p < s.size := by omega
    have hlt2 : (p : Int) < (s.size : Int) := by omega
    have hne : (p : Int) ≠ (s.size : Int) := by omega
    have HBA := Lib.hid (byteAt_get hlt)
    obtain ⟨b, hb⟩ : ∃ b, (s[p]'hlt).toNat = b := ⟨_, rfl⟩
    have hb8 : b < 256 := by rw [← hb]; exact UInt8.toNat_lt _
    have HB := Lib.hid (show byteAt s.data.toList p = b from HBA.out.trans hb)
    have HK := Lib.hid (kOf_ok (b := b))
    have hk8 := kOf_le b
    obtain ⟨k, hk⟩ : ∃ k, k = kOf b := ⟨_, rfl⟩
    have HSZ := Lib.hid (fun y => vsize_any b y)
    rw [← hk] at HSZ HK hk8
    have HKB := Lib.hid hk.symm
    have HV := Lib.hid (show vgetL s.data.toList p = if s.size < p + 1 + k then (0, 0, 5) else if (vintL (if k = 0 then b else getN s (p + 1) k)).length = 1 + k then (if k = 0 then b else getN s (p + 1) k, p + 1 + k, 0) else (0, 0, 4) by
      unfold vgetL vnum
      rw [if_neg (by omega), HB.out, HKB.out, hln]
      rfl)
    clear hk hln hpe HBA
    by_cases hk0 : k = 0
    · subst hk0
      have HV := Lib.hid (HV.out.trans (if_neg (by omega)))
      rw [if_pos rfl] at HV
      have HP := Lib.hid (fun y => vput_any b (by omega) y)
      have hvl := bL_size (vintL b)
      have hv9 := vintL_le b
      generalize hvs : bL (vintL b) = vs at *
      by_cases hz : (vintL b).length = 1 + 0
      · have HF := Lib.hid (HV.out.trans (if_pos hz))
        have hzz : (vs.size : Int) = 1 := by omega
        have HP := Lib.hid (show ∀ y : World, Calls Try.prog 105 #[.int .u64 b] y fun e w' => e = .returned (.string vs) ∧ Below y.heap.size y w' from fun y => hvs ▸ HP.out y)
        clear hz hvl hv9 hvs
        go_enter Try.func108, Try.ntmps108
        go_wp2_with fail
        refine (HSZ.out w).mono ?_
        rintro e w' ⟨rfl, rfl⟩
        go_wp2_with fail
        refine (HP.out w).mono ?_
        rintro e w' ⟨rfl, hb⟩
        have HB0 := Lib.hid hb
        clear hb
        go_wp2_with fail
        exact bodyPost_ret (v := .tuple #[.int .u64 (b), .int .i64 (((p + 1 : Nat) : Int)), .int .i64 0]) (by simp [results, Try.results108, go_sem]) rfl ⟨ret_v HF.out, HB0.out⟩
      · have HF := Lib.hid (HV.out.trans (if_neg hz))
        have hzz : ¬ (vs.size : Int) = 1 := by omega
        have HP := Lib.hid (show ∀ y : World, Calls Try.prog 105 #[.int .u64 b] y fun e w' => e = .returned (.string vs) ∧ Below y.heap.size y w' from fun y => hvs ▸ HP.out y)
        clear hz hvl hv9 hvs
        go_enter Try.func108, Try.ntmps108
        go_wp2_with fail
        refine (HSZ.out w).mono ?_
        rintro e w' ⟨rfl, rfl⟩
        go_wp2_with fail
        refine (HP.out w).mono ?_
        rintro e w' ⟨rfl, hb⟩
        have HB0 := Lib.hid hb
        clear hb
        go_wp2_with fail
        exact bodyPost_ret (v := .tuple #[.int .u64 ((0 : Nat)), .int .i64 ((0 : Nat)), .int .i64 4]) (by simp [results, Try.results108, go_sem]) rfl ⟨ret_v HF.out, HB0.out⟩
    · have hk1 : (0 : Int) < (k : Int) := by omega
      have hok := HK.out hk0
      simp only [if_neg hk0] at HV
      by_cases hin : s.size < p + 1 + k
      · have HF := Lib.hid (HV.out.trans (if_pos hin))
        have HG := Lib.hid (fun y => get_no s ((p : Int) + 1) k hok (by omega) (.inr (by omega)) y)
        clear HV HK hok hin
        go_enter Try.func108, Try.ntmps108
        go_wp2_with fail
        refine (HSZ.out w).mono ?_
        rintro e w' ⟨rfl, rfl⟩
        go_wp2_with fail
        refine (HG.out w).mono ?_
        rintro e w' ⟨rfl, hb⟩
        have HB0 := Lib.hid hb
        clear hb
        go_wp2_with fail
        exact bodyPost_ret (v := .tuple #[.int .u64 ((0 : Nat)), .int .i64 ((0 : Nat)), .int .i64 5]) (by simp [results, Try.results108, go_sem]) rfl ⟨ret_v HF.out, HB0.out⟩
      · have HV := Lib.hid (HV.out.trans (if_neg hin))
        have hgl := getN_lt (s := s) (p := p + 1) hk8
        have HG := Lib.hid (show ∀ y : World, Calls Try.prog 122 #[.string s, .int .i64 ((p : Int) + 1), .int .i64 k] y fun e w'' => e = .returned (.tuple #[.int .u64 (getN s (p + 1) k), .bool true]) ∧ Below y.heap.size y w'' from fun y => get_yes s (p + 1) k hok (by omega) (by omega) y)
        have hin2 : (p : Int) + 1 + k ≤ (s.size : Int) := by omega
        clear hin hok HK
        generalize getN s (p + 1) k = n at *
        have HP := Lib.hid (fun y => vput_any n hgl y)
        have hvl := bL_size (vintL n)
        have hv9 := vintL_le n
        generalize hvs : bL (vintL n) = vs at *
        have HP := Lib.hid (show ∀ y : World, Calls Try.prog 105 #[.int .u64 n] y fun e w' => e = .returned (.string vs) ∧ Below y.heap.size y w' from fun y => hvs ▸ HP.out y)
        by_cases hz : (vintL n).length = 1 + k
        · have HF := Lib.hid (HV.out.trans (if_pos hz))
          have hzz : (vs.size : Int) = 1 + k := by omega
          have hcmp : ((1 + (k : Int)) != (p : Int) + 1 + k - p) = false := by rw [bne_eq_false_iff_eq]; omega
          clear hz hvl hv9 hvs
          go_enter Try.func108, Try.ntmps108
          go_wp2_with fail
          refine (HSZ.out w).mono ?_
          rintro e w' ⟨rfl, rfl⟩
          go_wp2_with fail
          refine (HG.out w).mono ?_
          rintro e w1 ⟨rfl, hb⟩
          have HB1 := Lib.hid hb
          clear hb
          go_wp2_with fail
          refine (HP.out w1).mono ?_
          rintro e w' ⟨rfl, hb⟩
          have HB0 := Lib.hid (HB1.out.trans (hb.mono HB1.out.size))
          clear hb
          go_wp2_with fail
          exact bodyPost_ret (v := .tuple #[.int .u64 (n), .int .i64 (((p + 1 + k : Nat) : Int)), .int .i64 0]) (by simp [results, Try.results108, go_sem]) rfl ⟨ret_v HF.out, HB0.out⟩
        · have HF := Lib.hid (HV.out.trans (if_neg hz))
          have hcmp : ((vs.size : Int) != (p : Int) + 1 + k - p) = true := by rw [bne_iff_ne]; omega
          clear hz hvl hv9 hvs
          go_enter Try.func108, Try.ntmps108
          go_wp2_with fail
          refine (HSZ.out w).mono ?_
          rintro e w' ⟨rfl, rfl⟩
          go_wp2_with fail
          refine (HG.out w).mono ?_
          rintro e w1 ⟨rfl, hb⟩
          have HB1 := Lib.hid hb
          clear hb
          go_wp2_with fail
          refine (HP.out w1).mono ?_
          rintro e w' ⟨rfl, hb⟩
          have HB0 := Lib.hid (HB1.out.trans (hb.mono HB1.out.size))
          clear hb
          go_wp2_with fail
          exact bodyPost_ret (v := .tuple #[.int .u64 ((0 : Nat)), .int .i64 ((0 : Nat)), .int .i64 4]) (by simp [results, Try.results108, go_sem]) rfl ⟨ret_v HF.out, HB0.out⟩
end Go.Proofs.Ytmcknjldimnaoaa
