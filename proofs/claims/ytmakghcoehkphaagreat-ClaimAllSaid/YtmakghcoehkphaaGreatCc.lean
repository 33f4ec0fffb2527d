/-
  Which of two rates is greater. Conditions: the numbers are ints.
-/
import Derived.Test.YtmakghcoehkphaaGreatCa
import Derived.Test.YtmakghcoehkphaaGreatQ4ClaimBuilds
import Derived.Test.YtmakghcoehkphaaGreatShelf
namespace Go.Proofs.YtmakghcoehkphaaGreat
open Go.RowKit Go.BigFrame
set_option linter.unusedVariables false
set_option linter.unusedSimpArgs false

def pricedB (f s : Int) : Bool := goodA f && (decide (0 < s) && (decide (0 ≤ s) && decide (s ≤ 1000000)))
theorem priced_iff (f s : Int) : pricedB f s = true ↔ (0 ≤ f ∧ f ≤ 2100000000000000) ∧ 0 < s ∧ s ≤ 1000000 := by
  unfold pricedB
  rw [Bool.and_eq_true, goodA_iff]
  simp
  omega
set_option maxRecDepth 100000 in
set_option maxHeartbeats 1000000 in
theorem priced_any (f s : Int) (w : World) : Calls Tryz.prog 52 #[.int .i64 f, .int .i64 s] w fun e w' => e = .returned (.bool (pricedB f s)) ∧ w = w' := by
  obtain ⟨r, hr⟩ : ∃ r, r = pricedB f s := ⟨_, rfl⟩
  rw [← hr]
  unfold pricedB at hr
  have HG := Lib.hid (good_any f w)
  have HW := Lib.hid (awithin_any s 1000000 w)
  cases hf : goodA f
  · rw [hf] at HG hr
    have HR := Lib.hid hr
    clear hr hf HW
    go_enter Tryz.func52, Tryz.ntmps52
    go_wp2_with fail
    refine HG.out.mono ?_
    rintro e w' ⟨rfl, rfl⟩
    go_wp2_with fail
    go_ret
    exact ⟨by rw [HR.out]; rfl, rfl⟩
  · rw [hf] at HG hr
    by_cases hs : 0 < s
    · rw [decide_eq_true hs, decide_eq_true (Int.le_of_lt hs)] at hr
      have HR := Lib.hid hr
      have hs0 : 0 ≤ s := by omega
      rw [decide_eq_true hs0] at HW
      clear hr hf
      go_enter Tryz.func52, Tryz.ntmps52
      go_wp2_with fail
      refine HG.out.mono ?_
      rintro e w' ⟨rfl, rfl⟩
      go_wp2_with fail
      refine HW.out.mono ?_
      rintro e w' ⟨rfl, rfl⟩
      go_wp2_with fail
      go_ret
      exact ⟨ret_bool (by rw [HR.out]; simp), rfl⟩
    · rw [decide_eq_false hs] at hr
      have HR := Lib.hid hr
      clear hr hf HW
      go_enter Tryz.func52, Tryz.ntmps52
      go_wp2_with fail
      refine HG.out.mono ?_
      rintro e w' ⟨rfl, rfl⟩
      go_wp2_with fail
      go_ret
      exact ⟨ret_bool (by rw [HR.out]; rfl), rfl⟩
/-- The sign of a rate less another. -/
def cmpR (f s o i : Int) : Int := if pricedB f s && pricedB o i then cmpN (f * i).toNat (o * s).toNat else 0
theorem cmp_words (a b : Nat) : orI (cmpN (a / 18446744073709551616) (b / 18446744073709551616)) (cmpN (a % 18446744073709551616) (b % 18446744073709551616)) = cmpN a b := by
  unfold orI cmpN
  have h1 := Nat.div_add_mod a 18446744073709551616
  have h2 := Nat.div_add_mod b 18446744073709551616
  have h3 := Nat.mod_lt a (show 0 < 18446744073709551616 by decide)
  have h4 := Nat.mod_lt b (show 0 < 18446744073709551616 by decide)
  generalize a / 18446744073709551616 = p at *
  generalize b / 18446744073709551616 = q at *
  generalize a % 18446744073709551616 = r at *
  generalize b % 18446744073709551616 = u at *
  by_cases e1 : p < q
  · rw [if_pos e1, if_neg (by decide), if_pos (by omega)]
  · by_cases e2 : q < p
    · rw [if_neg e1, if_pos e2, if_neg (by decide), if_neg (by omega), if_pos (by omega)]
    · rw [if_neg e1, if_neg e2, if_pos rfl]
      by_cases e3 : r < u
      · rw [if_pos e3, if_pos (by omega)]
      · by_cases e4 : u < r
        · rw [if_neg e3, if_pos e4, if_neg (by omega), if_pos (by omega)]
        · rw [if_neg e3, if_neg e4, if_neg (by omega), if_neg (by omega)]
set_option maxRecDepth 100000 in
set_option maxHeartbeats 2000000 in
theorem compare_any (f s o i : Int) (w : World) : Calls Tryz.prog 22 #[.int .i64 f, .int .i64 s, .int .i64 o, .int .i64 i] w (fun e w' => e = .returned (.int .i64 (cmpR f s o i)) ∧ Below w.heap.size w w') := by
  have HP := Lib.hid (priced_any f s w)
  have HQ := Lib.hid (priced_any o i w)
  obtain ⟨r, hr⟩ : ∃ r, r = cmpR f s o i := ⟨_, rfl⟩
  rw [← hr]
  unfold cmpR at hr
  cases hp : pricedB f s
  · rw [hp] at HP hr
    have HR := Lib.hid hr
    clear hr hp HQ
    go_enter Tryz.func22, Tryz.ntmps22
    go_wp2_with fail
    refine HP.out.mono ?_
    rintro e w' ⟨rfl, rfl⟩
    go_wp2_with fail
    go_ret
    exact ⟨by rw [HR.out]; rfl, Below.refl _ _⟩
  · cases hq : pricedB o i
    · rw [hp] at HP hr
      rw [hq] at HQ hr
      have HR := Lib.hid hr
      clear hr hp hq
      go_enter Tryz.func22, Tryz.ntmps22
      go_wp2_with fail
      refine HP.out.mono ?_
      rintro e w' ⟨rfl, rfl⟩
      go_wp2_with fail
      refine HQ.out.mono ?_
      rintro e w' ⟨rfl, rfl⟩
      go_wp2_with fail
      go_ret
      exact ⟨by rw [HR.out]; rfl, Below.refl _ _⟩
    · obtain ⟨⟨p1, p2⟩, p3, p4⟩ := (priced_iff f s).1 hp
      obtain ⟨⟨q1, q2⟩, q3, q4⟩ := (priced_iff o i).1 hq
      rw [hp] at HP hr
      rw [hq] at HQ hr
      obtain ⟨F, rfl⟩ : ∃ F : Nat, f = F := ⟨f.toNat, by omega⟩
      obtain ⟨S, rfl⟩ : ∃ S : Nat, s = S := ⟨s.toNat, by omega⟩
      obtain ⟨O, rfl⟩ : ∃ O : Nat, o = O := ⟨o.toNat, by omega⟩
      obtain ⟨I, rfl⟩ : ∃ I : Nat, i = I := ⟨i.toNat, by omega⟩
      have HR := Lib.hid (show r = cmpN (F * I) (O * S) by rw [hr]; simp only [Bool.and_self, if_true]; congr 1)
      have HW := Lib.hid (cmp_words (F * I) (O * S))
      clear hr hp hq
      have b1 : F < 18446744073709551616 := by omega
      have b2 : S < 18446744073709551616 := by omega
      have b3 : O < 18446744073709551616 := by omega
      have b4 : I < 18446744073709551616 := by omega
      have HM := Lib.hid (Tryz.bits_Mul64 F I b1 b4 w)
      have HN := Lib.hid (Tryz.bits_Mul64 O S b3 b2 w)
      clear b1 b2 b3 b4
      generalize F * I / 18446744073709551616 = x1 at *
      generalize F * I % 18446744073709551616 = x2 at *
      generalize O * S / 18446744073709551616 = y1 at *
      generalize O * S % 18446744073709551616 = y2 at *
      have HC1 := Lib.hid (cmp64_any x1 y1 w)
      have HC2 := Lib.hid (cmp64_any x2 y2 w)
      have HO := Lib.hid (or_any w.heap.size (cmpN x1 y1) (cmpN x2 y2) (w.alloc (.cells #[.int .i64 (cmpN x1 y1), .int .i64 (cmpN x2 y2)] 3)) (cell_at (heap_alloc_new w _)) (cell_at (heap_alloc_new w _)))
      rw [HW.out] at HO
      generalize cmpN (F * I) (O * S) = z at *
      generalize cmpN x1 y1 = z1 at *
      generalize cmpN x2 y2 = z2 at *
      clear HW
      go_enter Tryz.func22, Tryz.ntmps22
      go_wp2_with fail
      refine HP.out.mono ?_
      rintro e w' ⟨rfl, rfl⟩
      go_wp2_with fail
      refine HQ.out.mono ?_
      rintro e w' ⟨rfl, rfl⟩
      go_wp2_with fail
      refine HM.out.mono ?_
      rintro e w' ⟨rfl, rfl⟩
      go_wp2_with fail
      refine HN.out.mono ?_
      rintro e w' ⟨rfl, rfl⟩
      go_wp2_with fail
      refine HC1.out.mono ?_
      rintro e w' ⟨rfl, rfl⟩
      go_wp2_with fail
      refine HC2.out.mono ?_
      rintro e w' ⟨rfl, rfl⟩
      go_wp2_with fail
      refine HO.out.mono ?_
      rintro e w' ⟨rfl, rfl⟩
      go_wp2_with fail
      go_ret
      exact ⟨by rw [HR.out]; rfl, (Below.refl _ _).alloc (Nat.le_refl _) _⟩
end Go.Proofs.YtmakghcoehkphaaGreat
