/-
  ChildPays, part 5: the texts Cl, ChildPaysLaw, one after another. Conditions: none beyond those named at each.
-/
import Derived.Test.YtmakghcoehkphaaQ4ChildPays
import Derived.Test.YtmakghcoehkphaaRows
import Derived.ProofKit
import Derived.OpenShut
import Derived.ShutString
import Derived.ChangeOld
import Derived.Below
section
/-
  ChildPays: the plain law and the walk. Conditions: the numbers are ints.
-/
namespace Go.Proofs.Ytmakghcoehkphaa
open Go.RowKit Go.BigFrame
set_option linter.unusedVariables false
set_option linter.unusedSimpArgs false

theorem bid_small {r f s : Int} (hr : 0 ≤ r ∧ r ≤ 100000) (hf : 0 ≤ f ∧ f < 20000) (hs : 0 ≤ s ∧ s < 50000) : bidE r f s = (max ((r * (s + 113) + 999) / 1000 - f) 113, 0) := by
  have hg : goodA f = true := (goodA_iff f).2 (by omega)
  have hfe : feeE r (s + 113) = ((r * (s + 113) + 999) / 1000, 0) := if_pos (by omega)
  unfold bidE
  rw [if_neg (by rw [hg]; simp; omega), hfe]
  rfl
theorem cmpN_ge {a b : Nat} (h : b ≤ a) : 0 ≤ cmpN a b := by unfold cmpN; rw [if_neg (by omega)]; split <;> decide
theorem cmpN_lt {a b : Nat} (h : a < b) : cmpN a b < 0 := by unfold cmpN; rw [if_pos h]; decide
theorem pays_plain {r f s : Int} (hr : 0 ≤ r ∧ r < 100000) (hf : 0 ≤ f ∧ f < 20000) (hs : 0 ≤ s ∧ s < 50000) :
    ∃ n m, bidE r f s = (n, 0) ∧ bidE (r + 1) f s = (m, 0) ∧ n ≤ m ∧ 113 ≤ n ∧ n ≤ 1000000000 ∧ 0 ≤ cmpR (n + f) (s + 113) r 1000 ∧ (n ≠ 113 → cmpR (n + f - 1) (s + 113) r 1000 < 0) := by
  have h1 := bid_small (r := r) (f := f) (s := s) (by omega) hf hs
  have h2 := bid_small (r := r + 1) (f := f) (s := s) (by omega) hf hs
  refine ⟨_, _, h1, h2, ?_⟩
  have e2 : (r + 1) * (s + 113) = r * (s + 113) + (s + 113) := by rw [Int.add_mul, Int.one_mul]
  rw [e2]
  have hp0 : 0 ≤ r * (s + 113) := Int.mul_nonneg hr.1 (by omega)
  have hp1 : r * (s + 113) ≤ 100000 * 60000 := Int.le_trans (Int.mul_le_mul_of_nonneg_right (by omega) (by omega)) (Int.mul_le_mul_of_nonneg_left (by omega) (by decide))
  have q1 : pricedB r 1000 = true := (priced_iff _ _).2 (by omega)
  obtain ⟨p, hp⟩ : ∃ p, p = r * (s + 113) := ⟨_, rfl⟩
  unfold cmpR
  rw [q1, ← hp]
  rw [← hp] at hp0 hp1
  clear h1 h2 e2 hp
  refine ⟨by omega, by omega, by omega, ?_, fun hne => ?_⟩
  · rw [(priced_iff _ _).2 (by omega)]
    simp only [Bool.and_self, if_true]
    exact cmpN_ge (by omega)
  · rw [(priced_iff _ _).2 (by omega)]
    simp only [Bool.and_self, if_true]
    exact cmpN_lt (by omega)

set_option maxRecDepth 100000 in
set_option maxHeartbeats 4000000 in
theorem childPays_walk (r f s : Int) (w : World) (hr : (Lit.int .i64 r).wf = true) (hf : (Lit.int .i64 f).wf = true) (hs : (Lit.int .i64 s).wf = true) : Calls Try.prog 5 #[.int .i64 r, .int .i64 f, .int .i64 s] w (BIs true w) := by
  have k1 : 0 ≤ max 0 r % 100000 ∧ max 0 r % 100000 < 100000 := by omega
  have k2 : 0 ≤ max 0 f % 20000 ∧ max 0 f % 20000 < 20000 := by omega
  have k3 : 0 ≤ max 0 s % 50000 ∧ max 0 s % 50000 < 50000 := by omega
  have HK := Lib.hid (And.intro k1 (And.intro k2 k3))
  clear k1 k2 k3
  go_enter Try.func5, Try.ntmps5
  go_upto_region 2 with fail
  generalize max 0 r % 100000 = r1 at *
  generalize max 0 f % 20000 = f1 at *
  generalize max 0 s % 50000 = s1 at *
  obtain ⟨k1, k2, k3⟩ := HK.out
  obtain ⟨n, m, hb1, hb2, hnm, hn, hn2, hc1, hc2⟩ := pays_plain k1 k2 k3
  have HN := Lib.hid (fun y => cbid_any r1 f1 s1 y)
  have HM := Lib.hid (fun y => cbid_any (r1 + 1) f1 s1 y)
  rw [hb1] at HN
  rw [hb2] at HM
  have HL := Lib.hid (fun y => fee_any 1000 113 y)
  rw [show feeE 1000 113 = (113, 0) by decide] at HL
  have HC1 := Lib.hid (fun y => compare_any (n + f1) (s1 + 113) r1 1000 y)
  have HC2 := Lib.hid (fun y => compare_any (n + f1 - 1) (s1 + 113) r1 1000 y)
  generalize cmpR (n + f1) (s1 + 113) r1 1000 = c1 at *
  generalize cmpR (n + f1 - 1) (s1 + 113) r1 1000 = c2 at *
  clear hb1 hb2 hr hf hs
  go_wp2_with fail
  refine (HN.out w).mono ?_
  rintro e w1 ⟨rfl, hb⟩
  have HB1 := Lib.hid hb
  clear hb
  go_wp2_with fail
  refine (HM.out w1).mono ?_
  rintro e w2 ⟨rfl, hb⟩
  have HB2 := Lib.hid (HB1.out.trans (hb.mono HB1.out.size))
  clear hb HB1
  go_wp2_with fail
  refine (csize_any w2).mono ?_
  rintro e w3 ⟨rfl, hb⟩
  have HB3 := Lib.hid (HB2.out.trans (hb.mono HB2.out.size))
  clear hb HB2
  go_wp2_with fail
  refine (HL.out w3).mono ?_
  rintro e w' ⟨rfl, rfl⟩
  go_wp2_with fail
  refine (csize_any w3).mono ?_
  rintro e w4 ⟨rfl, hb⟩
  have HB4 := Lib.hid (HB3.out.trans (hb.mono HB3.out.size))
  clear hb HB3
  go_wp2_with fail
  refine (wakes24_any w4).mono ?_
  rintro e w5 ⟨rfl, hb⟩
  have HB5 := Lib.hid (HB4.out.trans (hb.mono HB4.out.size))
  clear hb HB4
  have l1 : ¬ m < n := by omega
  have l2 : ¬ n < 113 := by omega
  by_cases hne : n = 113
  · subst hne
    clear hc2
    go_wp2_with fail
    refine (HC1.out w5).mono ?_
    rintro e w6 ⟨rfl, hb⟩
    have HB6 := Lib.hid (HB5.out.trans (hb.mono HB5.out.size))
    clear hb HB5
    go_wp2_with fail
    go_ret
    exact ⟨ret_bool (by simp), HB6.out⟩
  · have hc3 := hc2 hne
    have hne2 : (n == 113) = false := by simpa using hne
    clear hc2
    go_wp2_with fail
    refine (HC1.out w5).mono ?_
    rintro e w6 ⟨rfl, hb⟩
    have HB6 := Lib.hid (HB5.out.trans (hb.mono HB5.out.size))
    clear hb HB5
    go_wp2_with fail
    refine (HC2.out w6).mono ?_
    rintro e w7 ⟨rfl, hb⟩
    have HB7 := Lib.hid (HB6.out.trans (hb.mono HB6.out.size))
    clear hb HB6
    go_wp2_with fail
    go_ret
    exact ⟨ret_bool (by simp), HB7.out⟩
end Go.Proofs.Ytmakghcoehkphaa
end

section
/-
  ChildPays returns true for every input, and each argument reads behind the call as before. Conditions: none beyond the statement's own.
-/
namespace Go.Proofs.Ytmakghcoehkphaa.childPaysDone
open Go.ChangeShapes Go.WideShapes Go.ChangeAt Go.RowKit
open Go.ChangeMaps (open_string shut_string)
set_option linter.unusedVariables false

theorem own : ownKnob Try.prog.godebug = none := by kernel_rfl
theorem laidOut : laidOutB Try.prog = true := by kernel_rfl

set_option maxRecDepth 100000 in
theorem lifted (os : Os) (started : os.Started) (H : Type) (enc : TypeId × Value → H) :
    ReturnsInHanded {} Try.checked os 5 .any (Rows.childPaysSpec.pre6 enc Try.prog Try.f5 Rows.childPaysRow.domain false) (Rows.childPaysSpec.post enc Try.prog Try.f5 false true false false) := by
  refine returnsInHanded_of_change (C := Try.checked) own started (by kernel_rfl) Try.func5
    (ChangeSpec.witness6 (enc := enc) (C := Try.checked) false ⟨#[], #[.int .i64 0, .int .i64 0, .int .i64 0], []⟩ 8 (by kernel_rfl) (by kernel_rfl) (by kernel_rfl) (by kernel_rfl)) ?_
  intro W base args ds gs before hval0 hW hcnd _
  have hval : ∀ (j : Nat) t v, Try.f5.params[j]? = some t → args[j]? = some v → Value.okWide Try.prog W .any base t v := hval0
  have hW' := hW
  obtain ⟨p, q, hA0, hV, rfl, hfz, hnd⟩ := hW
  have hA : DataW.TrodAll enc Try.prog W 0 (fun _ => true) true Try.f5.params.toList args.toList ds p := hA0
  rw [Try.params5] at hA hval
  obtain ⟨v0, vs0, d0, ds0, p0, q0, hargs, rfl, rfl, h0, r0⟩ := trodAll_cons hA
  obtain ⟨v1, vs1, d1, ds1, p1, q1, rfl, rfl, rfl, h1, r1⟩ := trodAll_cons r0
  obtain ⟨v2, vs2, d2, ds2, p2, q2, rfl, rfl, rfl, h2, r2⟩ := trodAll_cons r1
  obtain ⟨rfl, rfl, rfl⟩ := trodAll_nil r2
  obtain rfl : args = #[v0, v1, v2] := by cases args; simp_all
  obtain ⟨rfl, rfl⟩ := trodVars_none hV
  have k0 := h0
  have lt0 : ∀ x ∈ p0, x.block < W.heap.size := by obtain ⟨m, hm⟩ := k0; exact DataW.trod_lt m _ _ _ hm
  obtain ⟨a0, rfl, rfl, rfl, w0⟩ := open_int Try.underlying3 (hval 0 3 v0 rfl rfl) h0
  have k1 := h1
  have lt1 : ∀ x ∈ p1, x.block < W.heap.size := by obtain ⟨m, hm⟩ := k1; exact DataW.trod_lt m _ _ _ hm
  obtain ⟨a1, rfl, rfl, rfl, w1⟩ := open_int Try.underlying3 (hval 1 3 v1 rfl rfl) h1
  have k2 := h2
  have lt2 : ∀ x ∈ p2, x.block < W.heap.size := by obtain ⟨m, hm⟩ := k2; exact DataW.trod_lt m _ _ _ hm
  obtain ⟨a2, rfl, rfl, rfl, w2⟩ := open_int Try.underlying3 (hval 2 3 v2 rfl rfl) h2
  clear hA0 hval0
  refine (childPays_walk a0 a1 a2 W w0 w1 w2).mono fun e W' ⟨he, bel⟩ => ?_
  subst he
  exact ⟨_, rfl, _, _, _, [], _, [], hW', trodAll_mk1 (shut_bool Try.underlying4 _), (trodAll_cons_mk (Below.trod laidOut (by kernel_rfl) (of_decide_eq_true (by kernel_rfl)) k0 bel lt0) (trodAll_cons_mk (Below.trod laidOut (by kernel_rfl) (of_decide_eq_true (by kernel_rfl)) k1 bel lt1) (trodAll_cons_mk (Below.trod laidOut (by kernel_rfl) (of_decide_eq_true (by kernel_rfl)) k2 bel lt2) trodAll_mk0))), rfl, bel.frame _, fun h => by cases h⟩

theorem proved : Rows.ChildPaysSaid :=
  OpenClaim.holds_of_wide 5 Try.f5 rfl rfl rfl rfl rfl rfl rfl ⟨rfl, rfl, rfl, rfl, rfl⟩ rfl rfl rfl rfl rfl (by kernel_rfl) Try.func5 (by kernel_rfl)
    (of_decide_eq_true (by kernel_rfl)) (by unfold Func.isWrapper; first | (rw [if_pos (by decide +kernel)]; kernel_rfl) | (rw [if_neg (by decide +kernel)]; exact ⟨rfl, rfl⟩))
    (fun os started H enc _ => lifted os started H enc)

#print axioms proved
end Go.Proofs.Ytmakghcoehkphaa.childPaysDone
end
