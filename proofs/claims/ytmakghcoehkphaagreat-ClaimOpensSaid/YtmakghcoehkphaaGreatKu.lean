/-
  The law's signs of life. Conditions: none.
-/
import Derived.Test.YtmakghcoehkphaaGreatKr3
import Derived.Test.YtmakghcoehkphaaGreatQ11ClaimBuilds
import Derived.Test.YtmakghcoehkphaaGreatKn
namespace Go.Proofs.YtmakghcoehkphaaGreat
open Go.RowKit Go.BigFrame
set_option linter.unusedVariables false
set_option linter.unusedSimpArgs false

/-- A group of groups. -/
theorem SlAt.grp {w : World} {a : Option Addr} {n c i : Nat} {gs : List (List PCl)} (h : SlAt (rpSl rpCl) w (.slice a n c) gs) (hi : i < n) : ∃ (b o : Nat) (g : List PCl) (ga : Option Addr) (gc : Nat), a = some ⟨b, o, none⟩ ∧ gs[i]? = some g ∧ w.cell? ⟨b, o + i, none⟩ = some (.slice ga g.length gc) ∧ SlAt rpCl w (.slice ga g.length gc) g := by
  obtain ⟨b, o, g, cs, h1, h2, h3, h4, v, h5, h6⟩ := h.at hi
  subst h5
  obtain ⟨ga, gc, rfl, -, -⟩ := h6.shape
  refine ⟨b, o, g, ga, gc, h1, h2, ?_, h6⟩
  have := h4 0 _ rfl
  simpa [rpSl] using this
def wkC (d : Int) : PCl := ⟨⟨#[]⟩, 0, 0, 0, ⟨0, 0, 0⟩, d⟩
def wkL : List PCl := [wkC 11, wkC 5, wkC 6]
theorem wkL_grp : (grpG bkC ltC wkL).map List.length = [1, 2] := by decide +kernel
theorem wkC_ok {d : Int} (h : 0 ≤ d ∧ d ≤ 100) : (wkC d).Ok := ⟨by show (0 : Nat) ≤ _; decide, by show 0 < _; decide, by show (_ : Int) ≤ 0 ∧ (0 : Int) ≤ _; decide, by show (_ : Int) ≤ 0 ∧ (0 : Int) ≤ _; decide, ⟨by show 0 < _; decide, by show 0 < _; decide, by show 0 < _; decide⟩, by show (_ : Int) ≤ d ∧ d ≤ _; omega⟩
theorem two_of {gs : List (List PCl)} (h : gs.map List.length = [1, 2]) : ∃ x0 x1 : List PCl, x0.length = 1 ∧ x1.length = 2 ∧ gs = [x0, x1] := by
  match gs, h with
  | [], h => cases h
  | [x0], h => simp at h
  | [x0, x1], h => exact ⟨x0, x1, by simpa using (List.cons.inj h).1, by simpa using (List.cons.inj (List.cons.inj h).2).1, rfl⟩
  | x0 :: x1 :: x2 :: r, h => simp at h
/-- A row of claims in a block. -/
theorem sl_row {w : World} {b : Nat} {l : List PCl} {t : TypeId} (h : w.heap[b]? = some (.cells (clsCells l).toArray t (0, 0))) (hl : l.length ≤ maxLen) (ho : ∀ x ∈ l, x.Ok) : SlAt rpCl w (.slice (some ⟨b, 0, none⟩) l.length l.length) l := by
  refine ⟨_, _, rfl, Nat.le_refl _, hl, fun i x hi => ⟨b, 0, clRow x, rfl, rfl, fun j u hj => ?_, rfl, ho x (List.mem_of_getElem? hi)⟩⟩
  have hj8 : j < 8 := (List.getElem?_eq_some_iff.1 hj).1
  rw [cell_at h]
  have := flat_at clRow 8 clRow_len l i x hi j hj8
  rw [show 0 + i * rpCl.size + j = i * 8 + j by simp [rpCl]]
  simp only [List.getElem?_toArray]
  rw [show clsCells l = l.flatMap clRow from rfl, this]
  exact hj
set_option maxRecDepth 100000 in
set_option maxHeartbeats 8000000 in
theorem wakes25_any (w : World) : Calls Tryz.prog 13 #[] w (BIs true w) := by
  have HQ1 := Lib.hid (fun y => bucket_any 11 y)
  have HQ2 := Lib.hid (fun y => ksize_any 2 y)
  have HQ3 := Lib.hid (fun y => kbid_any 2000 1 y)
  have HQ4 := Lib.hid (fun y : World => claimB_any (.slice none 0 0) [] ⟨#[]⟩ 0 0 ⟨#[]⟩ 0 1 0 y ⟨none, 0, rfl, Nat.le_refl _, Nat.zero_le _, fun i x hi => by simp at hi⟩ (by decide) (by show (0 : Nat) ≤ _; decide) (by decide) (by decide) (by decide))
  rw [show bktE 11 = (1, 0) by decide] at HQ1
  rw [show sizeS 2 = (156, 0) by decide] at HQ2
  rw [show bidS 2000 1 = (226, 0) by decide] at HQ3
  rw [show claimsOf [] ⟨#[]⟩ 0 0 1 0 = (noTx, 6) from if_pos (.inl (by decide))] at HQ4
  unfold enV at HQ4
  dsimp only at HQ1 HQ2 HQ3
  go_enter Tryz.func13, Tryz.ntmps13
  go_wp2_with fail
  refine (HQ1.out w).mono ?_
  rintro e w' ⟨rfl, rfl⟩
  go_wp2_with fail
  refine (HQ2.out w).mono ?_
  rintro e w1 ⟨rfl, hb⟩
  have HB1 := Lib.hid hb
  clear hb
  go_wp2_with fail
  refine (HQ3.out w1).mono ?_
  rintro e w2 ⟨rfl, hb⟩
  have HB2 := Lib.hid (HB1.out.trans (hb.mono HB1.out.size))
  clear hb HB1
  go_wp2_with fail
  refine (HQ4.out w2).mono ?_
  rintro e w3 ⟨v, rfl, htx, hb⟩
  have HB3 := Lib.hid (HB2.out.trans (hb.mono HB2.out.size))
  obtain ⟨va, vo, rfl, ha, hob, -, -⟩ := htx.at
  obtain ⟨a1, m1, rfl, -, -⟩ := ha.shape
  obtain ⟨a2, m2, rfl, -, -⟩ := hob.shape
  rw [show (noTx, (6 : Int)).1.ver = 0 from rfl, show (noTx, (6 : Int)).1.lock = 0 from rfl, show (noTx, (6 : Int)).1.ins.length = 0 from rfl, show (noTx, (6 : Int)).1.outs.length = 0 from rfl]
  clear ha hob htx hb HB2
  go_upto_region 5 with fail
  have hz := heap_alloc_new w3 (.cells #[.int .u32 (0 : Nat), .slice a1 0 m1, .slice a2 0 m2, .int .u32 (0 : Nat)] 44)
  have hal : Below w3.heap.size w3 (w3.alloc (.cells #[.int .u32 (0 : Nat), .slice a1 0 m1, .slice a2 0 m2, .int .u32 (0 : Nat)] 44)) := (Below.refl _ _).alloc (Nat.le_refl _) _
  obtain ⟨U, hU⟩ : ∃ q, q = w3.heap.size := ⟨_, rfl⟩
  rw [← hU] at hz ⊢
  generalize w3.alloc (.cells #[.int .u32 (0 : Nat), .slice a1 0 m1, .slice a2 0 m2, .int .u32 (0 : Nat)] 44) = w4 at *
  have HB4 := Lib.hid (HB3.out.trans (hal.mono HB3.out.size))
  clear hz hal hU HB3
  have hz := heap_alloc_new w4 (.cells (clsCells wkL).toArray 34)
  have hal : Below w4.heap.size w4 (w4.alloc (.cells (clsCells wkL).toArray 34)) := (Below.refl _ _).alloc (Nat.le_refl _) _
  have HG := Lib.hid (group_any _ wkL (w4.alloc (.cells (clsCells wkL).toArray 34)) (sl_row hz (by decide) (fun x hx => by
    simp only [wkL, List.mem_cons, List.not_mem_nil, or_false] at hx
    rcases hx with rfl | rfl | rfl <;> exact wkC_ok (by decide))) (by decide))
  have HB5 := Lib.hid (HB4.out.trans (hal.mono HB4.out.size))
  have HGL := Lib.hid wkL_grp
  generalize grpG bkC ltC wkL = gs at *
  rw [show (clsCells wkL).toArray = #[.string ⟨#[]⟩, .int .u32 0, .int .i64 0, .int .i64 0, .int .u16 0, .int .u16 0, .int .u32 0, .int .i64 11, .string ⟨#[]⟩, .int .u32 0, .int .i64 0, .int .i64 0, .int .u16 0, .int .u16 0, .int .u32 0, .int .i64 5, .string ⟨#[]⟩, .int .u32 0, .int .i64 0, .int .i64 0, .int .u16 0, .int .u16 0, .int .u32 0, .int .i64 6] from rfl, show wkL.length = 3 from rfl] at HG
  rw [show (clsCells wkL).toArray = #[.string ⟨#[]⟩, .int .u32 0, .int .i64 0, .int .i64 0, .int .u16 0, .int .u16 0, .int .u32 0, .int .i64 11, .string ⟨#[]⟩, .int .u32 0, .int .i64 0, .int .i64 0, .int .u16 0, .int .u16 0, .int .u32 0, .int .i64 5, .string ⟨#[]⟩, .int .u32 0, .int .i64 0, .int .i64 0, .int .u16 0, .int .u16 0, .int .u32 0, .int .i64 6] from rfl] at HB5
  clear hz hal HB4
  go_wp2_with fail
  refine HG.out.mono ?_
  rintro e w6 ⟨v, rfl, hsl, hb⟩
  have HB6 := Lib.hid (HB5.out.trans (hb.mono HB5.out.size))
  obtain ⟨x0, x1, h0, h1, rfl⟩ := two_of HGL.out
  obtain ⟨a3, c3, rfl, -, -⟩ := hsl.shape
  obtain ⟨b, o, g0, ga, gc, rfl, hg0, q0, -⟩ := hsl.grp (i := 0) (show 0 < 2 by decide)
  obtain ⟨b', o', g1, ga1, gc1, hbo, hg1, q1, -⟩ := hsl.grp (i := 1) (show 1 < 2 by decide)
  obtain ⟨rfl, rfl⟩ : b = b' ∧ o = o' := by simpa using hbo
  obtain rfl : x0 = g0 := Option.some.inj hg0
  obtain rfl : x1 = g1 := Option.some.inj hg1
  rw [h0, Nat.add_zero] at q0
  rw [h1] at q1
  rw [show [x0, x1].length = 2 from rfl]
  clear hsl hb hbo hg0 hg1 HB5 HGL
  go_wp2_with fail
  go_ret
  exact ⟨rfl, HB6.out⟩
end Go.Proofs.YtmakghcoehkphaaGreat
