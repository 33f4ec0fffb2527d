/-
  cmp.Compare of whole numbers, cmp.Or of two. Conditions: none beyond each theorem's own.
-/
import Derived.Test.YtelindgnkpfkiaaTxA
namespace Go.Proofs.Ytelindgnkpfkiaa
open Go.RowKit Go.BigFrame
set_option linter.unusedVariables false
set_option linter.unusedSimpArgs false

def cmpN (a b : Nat) : Int := if a < b then -1 else if b < a then 1 else 0
set_option maxRecDepth 100000 in
set_option maxHeartbeats 1000000 in
theorem nan_any (a : Nat) (w : World) : Calls Try.prog 71 #[.int .u32 a] w fun e w' => e = .returned (.bool false) ∧ w = w' := by
  go_enter Try.func71, Try.ntmps71
  go_wp2
  go_ret
  exact ⟨ret_bool (by simp), rfl⟩
set_option maxRecDepth 100000 in
set_option maxHeartbeats 1000000 in
theorem cmp_any (a b : Nat) (w : World) : Calls Try.prog 57 #[.int .u32 a, .int .u32 b] w fun e w' => e = .returned (.int .i64 (cmpN a b)) ∧ w = w' := by
  obtain ⟨r, hr⟩ : ∃ r, r = cmpN a b := ⟨_, rfl⟩
  rw [← hr]
  have HR := Lib.hid hr
  have HA := Lib.hid (nan_any a w)
  have HB := Lib.hid (nan_any b w)
  clear hr
  go_enter Try.func57, Try.ntmps57
  by_cases h1 : a < b
  · have HE := Lib.hid (show cmpN a b = -1 by unfold cmpN; rw [if_pos h1])
    go_wp2_with fail
    refine HA.out.mono ?_
    rintro e w' ⟨rfl, rfl⟩
    go_wp2_with fail
    refine HB.out.mono ?_
    rintro e w' ⟨rfl, rfl⟩
    go_wp2_with fail
    go_ret
    exact ⟨by rw [HR.out, HE.out]; rfl, rfl⟩
  · by_cases h2 : b < a
    · have HE := Lib.hid (show cmpN a b = 1 by unfold cmpN; rw [if_neg h1, if_pos h2])
      go_wp2_with fail
      refine HA.out.mono ?_
      rintro e w' ⟨rfl, rfl⟩
      go_wp2_with fail
      refine HB.out.mono ?_
      rintro e w' ⟨rfl, rfl⟩
      go_wp2_with fail
      go_ret
      exact ⟨by rw [HR.out, HE.out]; rfl, rfl⟩
    · have HE := Lib.hid (show cmpN a b = 0 by unfold cmpN; rw [if_neg h1, if_neg h2])
      go_wp2_with fail
      refine HA.out.mono ?_
      rintro e w' ⟨rfl, rfl⟩
      go_wp2_with fail
      refine HB.out.mono ?_
      rintro e w' ⟨rfl, rfl⟩
      go_wp2_with fail
      go_ret
      exact ⟨by rw [HR.out, HE.out]; rfl, rfl⟩
def orI (x y : Int) : Int := if x = 0 then y else x
set_option maxRecDepth 100000 in
set_option maxHeartbeats 1000000 in
theorem or_any (b : Nat) (x y : Int) (w : World) (h0 : w.cell? ⟨b, 0, none⟩ = some (.int .i64 x)) (h1 : w.cell? ⟨b, 1, none⟩ = some (.int .i64 y)) :
    Calls Try.prog 55 #[.slice (some ⟨b, 0, none⟩) 2 2] w fun e w' => e = .returned (.int .i64 (orI x y)) ∧ w = w' := by
  obtain ⟨r, hr⟩ : ∃ r, r = orI x y := ⟨_, rfl⟩
  rw [← hr]
  have HR := Lib.hid hr
  clear hr
  go_enter Try.func55, Try.ntmps55
  go_wp2_with fail
  go_loopg [8] 2 (fun g i wr => ∃ k : Nat, g = 2 - k ∧ k ≤ 2 ∧ i = .int .i64 k ∧ wr = w ∧ Hid ((0 < k → x = 0) ∧ (1 < k → y = 0)))
  case atStart => exact ⟨0, rfl, by omega, rfl, rfl, Lib.hid ⟨fun h => absurd h (by omega), fun h => absurd h (by omega)⟩⟩
  case round =>
    rename World => wo
    obtain ⟨k, hgk, hk, rfl, rfl, hx⟩ := hrel
    have HGK := Lib.hid hgk
    clear hgk
    obtain rfl | rfl | rfl : k = 0 ∨ k = 1 ∨ k = 2 := by omega
    · by_cases hz : x = 0
      · subst hz
        go_wp2_with fail
        go_roundg 1
        case measure => have := HGK.out; omega
        case rel => exact ⟨1, rfl, by omega, by simp, by simp, Lib.hid (by simp)⟩
      · have HE := Lib.hid (show orI x y = x by unfold orI; rw [if_neg hz])
        go_wp2_with fail
        go_ret
        exact ⟨by rw [HR.out, HE.out]; rfl, rfl⟩
    · have hx0 := hx.out.1 (by omega)
      have HE := Lib.hid (show orI x y = y by unfold orI; rw [if_pos hx0])
      by_cases hz : y = 0
      · have HX := Lib.hid hx0
        clear hx0
        subst hz
        go_wp2_with fail
        go_roundg 0
        case measure => have := HGK.out; omega
        case rel => exact ⟨2, rfl, by omega, by simp, by simp, Lib.hid (by have := HX.out; simp [this])⟩
      · go_wp2_with fail
        go_ret
        exact ⟨by rw [HR.out, HE.out]; rfl, rfl⟩
    · have HE := Lib.hid (show orI x y = 0 by unfold orI; rw [if_pos (hx.out.1 (by omega)), hx.out.2 (by omega)])
      clear hx
      go_wp2_with fail
      go_ret
      exact ⟨by rw [HR.out, HE.out]; rfl, rfl⟩
end Go.Proofs.Ytelindgnkpfkiaa
