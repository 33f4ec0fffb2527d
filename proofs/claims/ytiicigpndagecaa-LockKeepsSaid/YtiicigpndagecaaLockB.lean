/-
  LockPuts: the walk. Conditions: none.
-/
import Derived.Test.YtiicigpndagecaaLockO
namespace Go.Proofs.Ytiicigpndagecaa
open Go.RowKit Go.BigFrame
set_option linter.unusedVariables false

theorem lockPut_len (A : List PBr) : (lockPut A).1.length ≤ 25 := by
  unfold lockPut
  split
  · simp
  · split
    · simp
    · rename_i h _
      dsimp only
      rw [List.length_append, leB_length, putBrs_len]
      omega

set_option maxRecDepth 100000 in
set_option maxHeartbeats 4000000 in
theorem lockPuts_walk (va : Value) (xs : List PBr) (s : ByteArray) (w : World) (ha : SlAt rpBr w va xs) (hs : s.size ≤ 9223372036854775807) :
    Calls Try.prog 6 #[va, .string s] w fun e w' => e = .returned (.bool true) ∧ Below w.heap.size w w' := by
  obtain ⟨a, c, rfl, hl1, hl2⟩ := ha.shape
  rw [maxLen_eq] at hl2
  have HA := Lib.hid ha
  clear ha
  generalize xs.length = n at *
  obtain ⟨m, hm⟩ : ∃ m : Nat, m = min n 6 := ⟨_, rfl⟩
  have hmi : min (n : Int) 6 = (m : Int) := by omega
  have hmn : m ≤ n := by omega
  have HA2 := Lib.hid (HA.out.cut hmn)
  have hokA : ∀ x ∈ xs.take m, x.Ok := sl_ok HA2.out
  clear hm
  generalize xs.take m = A at *
  obtain ⟨x, ex, hpa⟩ : ∃ x ex, lockPut A = (x, ex) := ⟨_, _, rfl⟩
  have hxl : (⟨x.toArray⟩ : ByteArray).size ≤ 9223372036854775807 := by
    have := lockPut_len A
    rw [hpa] at this
    dsimp only at this
    rw [mk_size]
    omega
  have hga : ex = 0 → lockGet ⟨x.toArray⟩ = some A := fun h => lockGet_put hokA (by rw [hpa, h])
  have hCA := fun w' (hw' : Below w.heap.size w w') => (lput_any (.slice a m c) A w' (HA2.out.below hw')).mono (R' := fun e w'' => e = .returned (.tuple #[.string ⟨x.toArray⟩, .int .i64 ex]) ∧ Below w'.heap.size w' w'') fun e w'' ⟨h1, h2⟩ => ⟨by rw [h1, hpa], h2⟩
  have hCB := fun w' (hw' : Below w.heap.size w w') => (rlput_any (.slice a m c) A w' (HA2.out.below hw')).mono (R' := fun e w'' => e = .returned (.tuple #[.string ⟨x.toArray⟩, .int .i64 ex]) ∧ Below w'.heap.size w' w'') fun e w'' ⟨h1, h2⟩ => ⟨by rw [h1, hpa], h2⟩
  generalize (⟨x.toArray⟩ : ByteArray) = sx at *
  have HCA := Lib.hid hCA
  have HCB := Lib.hid hCB
  have HGA := Lib.hid hga
  have HG1 := Lib.hid (lget_any sx hxl)
  have HG2 := Lib.hid (lget_any s hs)
  have HG3 := Lib.hid (rlget_any s hs)
  have HNE := Lib.hid (fun l (h : lockGet s = some l) => (lockPut_ok_inv (lockPut_get h)).1)
  clear hCA hCB hga hokA hpa hxl hs
  go_enter Try.func6, Try.ntmps6
  go_wp2_with fail
  refine (HCA.out _ (Below.refl _ _)).mono ?_
  rintro e w1 ⟨rfl, hb1⟩
  have H1 := Lib.hid hb1
  clear hb1
  go_wp2_with fail
  refine (HCB.out _ H1.out).mono ?_
  rintro e w2 ⟨rfl, hb2⟩
  have H2 := Lib.hid (H1.out.trans (hb2.mono H1.out.size))
  clear hb2
  go_wp2_with fail
  refine (HG1.out _).mono ?_
  rintro e w3 ⟨v1, rfl, hv1, hb3, -⟩
  have H3 := Lib.hid (H2.out.trans (hb3.mono H2.out.size))
  clear hb3
  obtain ⟨a1, c1, rfl, -, -⟩ := hv1.shape
  have HV1 := Lib.hid hv1
  clear hv1
  by_cases hex : ex = 0
  · subst hex
    have hgs := HGA.out rfl
    have HE := Lib.hid ((eqbr_any _ (.slice a m c) _ A w3 HV1.out (HA2.out.below H3.out)).mono (R' := fun e w'' => e = .returned (.bool true) ∧ Below w3.heap.size w3 w'') fun e w'' ⟨h1, h2⟩ => ⟨by rw [h1, hgs]; simp, h2⟩)
    rw [hgs] at HE ⊢
    clear hgs
    go_wp2_with fail
    refine HE.out.mono ?_
    rintro e w4 ⟨rfl, hb4⟩
    have H4 := Lib.hid (H3.out.trans (hb4.mono H3.out.size))
    clear hb4
    go_wp2_with fail
    refine (HG2.out _).mono ?_
    rintro e w5 ⟨v2, rfl, hv2, hb5, -⟩
    have H5 := Lib.hid (H4.out.trans (hb5.mono H4.out.size))
    clear hb5
    obtain ⟨g2, hg2⟩ : ∃ g : Int, g = (if (lockGet s).isSome = true then (0 : Int) else 4) := ⟨_, rfl⟩
    rw [← hg2]
    have HQ2 := Lib.hid hg2
    clear hg2
    obtain ⟨a2, c2, rfl, -, -⟩ := hv2.shape
    have HV2 := Lib.hid hv2
    clear hv2
    go_wp2_with fail
    refine (HG3.out _).mono ?_
    rintro e w6 ⟨v3, rfl, hv3, hb6⟩
    have H6 := Lib.hid (H5.out.trans (hb6.mono H5.out.size))
    have HV26 := Lib.hid (HV2.out.below hb6)
    clear hb6
    obtain ⟨a3, c3, rfl, hl3, hm3⟩ := hv3.shape
    rw [maxLen_eq] at hm3
    have HV3 := Lib.hid hv3
    clear hv3
    go_wp2_with fail
    refine (wakes_any _).mono ?_
    rintro e w7 ⟨rfl, hb7⟩
    have H7 := Lib.hid (H6.out.trans (hb7.mono H6.out.size))
    have HE2 := Lib.hid ((eqbr_any _ _ _ _ w7 (HV26.out.below hb7) (HV3.out.below hb7)).mono (R' := fun e w'' => e = .returned (.bool true) ∧ Below w7.heap.size w7 w'') fun e w'' ⟨h1, h2⟩ => ⟨by rw [h1]; simp, h2⟩)
    clear hb7
    have hlens : (g2 = 0 ∧ 0 < ((lockGet s).getD []).length) ∨ (g2 = 4 ∧ ((lockGet s).getD []).length = 0) := by
      have hq := HQ2.out
      cases h : lockGet s with
      | none => rw [h] at hq; exact .inr ⟨hq, rfl⟩
      | some l => rw [h] at hq; exact .inl ⟨hq, by have := HNE.out l h; show 0 < l.length; omega⟩
    clear HQ2
    generalize ((lockGet s).getD []).length = ll at *
    rcases hlens with ⟨rfl, hll⟩ | ⟨rfl, rfl⟩
    · go_wp2_with fail
      refine HE2.out.mono ?_
      rintro e w8 ⟨rfl, hb8⟩
      have H8 := Lib.hid (H7.out.trans (hb8.mono H7.out.size))
      clear hb8
      have hlI : (0 : Int) < (ll : Int) := by omega
      go_wp2
      go_ret
      exact ⟨rfl, H8.out⟩
    · go_wp2_with fail
      refine HE2.out.mono ?_
      rintro e w8 ⟨rfl, hb8⟩
      have H8 := Lib.hid (H7.out.trans (hb8.mono H7.out.size))
      clear hb8
      go_wp2
      go_ret
      exact ⟨rfl, H8.out⟩
  · have hb0 : (ex == 0) = false := by rw [beq_eq_false_iff_ne]; exact hex
    have H4 := Lib.hid H3.out
    obtain ⟨w4, hw4⟩ : ∃ w4, w4 = w3 := ⟨_, rfl⟩
    subst hw4
    generalize (if (lockGet sx).isSome = true then (0 : Int) else 4) = gq at *
    go_wp2_with fail
    refine (HG2.out _).mono ?_
    rintro e w5 ⟨v2, rfl, hv2, hb5, -⟩
    have H5 := Lib.hid (H4.out.trans (hb5.mono H4.out.size))
    clear hb5
    obtain ⟨g2, hg2⟩ : ∃ g : Int, g = (if (lockGet s).isSome = true then (0 : Int) else 4) := ⟨_, rfl⟩
    rw [← hg2]
    have HQ2 := Lib.hid hg2
    clear hg2
    obtain ⟨a2, c2, rfl, -, -⟩ := hv2.shape
    have HV2 := Lib.hid hv2
    clear hv2
    go_wp2_with fail
    refine (HG3.out _).mono ?_
    rintro e w6 ⟨v3, rfl, hv3, hb6⟩
    have H6 := Lib.hid (H5.out.trans (hb6.mono H5.out.size))
    have HV26 := Lib.hid (HV2.out.below hb6)
    clear hb6
    obtain ⟨a3, c3, rfl, hl3, hm3⟩ := hv3.shape
    rw [maxLen_eq] at hm3
    have HV3 := Lib.hid hv3
    clear hv3
    go_wp2_with fail
    refine (wakes_any _).mono ?_
    rintro e w7 ⟨rfl, hb7⟩
    have H7 := Lib.hid (H6.out.trans (hb7.mono H6.out.size))
    have HE2 := Lib.hid ((eqbr_any _ _ _ _ w7 (HV26.out.below hb7) (HV3.out.below hb7)).mono (R' := fun e w'' => e = .returned (.bool true) ∧ Below w7.heap.size w7 w'') fun e w'' ⟨h1, h2⟩ => ⟨by rw [h1]; simp, h2⟩)
    clear hb7
    have hlens : (g2 = 0 ∧ 0 < ((lockGet s).getD []).length) ∨ (g2 = 4 ∧ ((lockGet s).getD []).length = 0) := by
      have hq := HQ2.out
      cases h : lockGet s with
      | none => rw [h] at hq; exact .inr ⟨hq, rfl⟩
      | some l => rw [h] at hq; exact .inl ⟨hq, by have := HNE.out l h; show 0 < l.length; omega⟩
    clear HQ2
    generalize ((lockGet s).getD []).length = ll at *
    rcases hlens with ⟨rfl, hll⟩ | ⟨rfl, rfl⟩
    · go_wp2_with fail
      refine HE2.out.mono ?_
      rintro e w8 ⟨rfl, hb8⟩
      have H8 := Lib.hid (H7.out.trans (hb8.mono H7.out.size))
      clear hb8
      have hlI : (0 : Int) < (ll : Int) := by omega
      go_wp2
      go_ret
      exact ⟨rfl, H8.out⟩
    · go_wp2_with fail
      refine HE2.out.mono ?_
      rintro e w8 ⟨rfl, hb8⟩
      have H8 := Lib.hid (H7.out.trans (hb8.mono H7.out.size))
      clear hb8
      go_wp2
      go_ret
      exact ⟨rfl, H8.out⟩

end Go.Proofs.Ytiicigpndagecaa
