/-
  Reserves: is a point leased? Conditions: the reserve lies in memory.
-/
import Derived.Test.YtelindgnkpfkiaaVb
import Derived.WalkKit
namespace Go.Proofs.Ytelindgnkpfkiaa
open Go.RowKit Go.BigFrame Go.Maps
set_option linter.unusedVariables false
set_option linter.unusedSimpArgs false

theorem grown_below {B : Nat} {w0 w w' : World} {row : Option Nat} (h : Below B w0 w) (hg : w.grownBy w' row) (hr : ∀ j, row = some j → B ≤ j) (hB : B ≤ w.heap.size) : Below B w0 w' :=
  ⟨hg.os.trans h.os, hg.tape.trans h.tape, hg.output.trans h.output, Nat.le_trans h.size hg.size, fun k hk => (hg.block k (by omega) (fun e => by have := hr k e.symm; omega)).trans (h.block k hk)⟩
theorem taken_no {M : Int → Option Pt} {p : Pt} (h : ∀ k q, M k = some q → q ≠ p) : takenB M p = false := @decide_eq_false _ (Classical.propDecidable _) fun ⟨k, hk⟩ => h k p hk rfl
theorem taken_yes {M : Int → Option Pt} {p : Pt} {k : Int} (h : M k = some p) : takenB M p = true := @decide_eq_true _ (Classical.propDecidable _) ⟨k, h⟩
set_option maxRecDepth 100000 in
set_option maxHeartbeats 2000000 in
theorem taken_any {cn : Nat} (b m : Nat) (script : ByteArray) (M : Int → Option Pt) (p : Pt) (w : World) (hr : RsM w b m script M cn) : Calls Try.prog 29 #[.pointer (some ⟨b, 0, none⟩), .agg #[.string p.1, .int .u32 p.2]] w (BIs (takenB M p) w) := by
  obtain ⟨n, D, hown, hag, -⟩ := hr.owns
  have HAG := Lib.hid hag
  have HBX := Lib.hid hr.box
  clear hr hag
  go_enter Try.func29, Try.ntmps29
  go_upto_region 1 with fail
  have hown0 := hown.alloc (.cells #[.string p.1, .int .u32 p.2] 35)
  have hz := heap_alloc_new w (.cells #[.string p.1, .int .u32 p.2] 35)
  have hal : Below w.heap.size w (w.alloc (.cells #[.string p.1, .int .u32 p.2] 35)) := (Below.refl _ _).alloc (Nat.le_refl _) _
  obtain ⟨X, hX⟩ : ∃ q, q = w.heap.size := ⟨_, rfl⟩
  rw [← hX] at hz ⊢
  generalize w.alloc (.cells #[.string p.1, .int .u32 p.2] 35) = w0 at *
  have c1 : w0.cell? ⟨b, 1, none⟩ = some (.map (some m)) := cell_at (stay HBX.out hal)
  have x0 : w0.cell? ⟨X, 0, none⟩ = some (.string p.1) := cell_at hz
  have x1 : w0.cell? ⟨X, 1, none⟩ = some (.int .u32 p.2) := cell_at hz
  have hXl := lt_of hz
  have HB0 := Lib.hid hal
  clear hz hal hX hown
  go_wp2_with (first
    | (at_range; refine wpList_range_own _ rfl _ 47 rfl 3 35 law Try.underlying47 ptElem m n D rfl hown0 ?_; intro w1 hrg0 hg0 hs0)
    | go_in)
  go_frame
  go_loopw [6] (fun _ wr => ∃ (left : Lit → Bool) (cnt : Nat), wr.ranges Try.prog 3 ptElem m w0.heap.size n D left cnt ∧ Below w0.heap.size w0 wr ∧ ∀ k q, M k = some q → left (.int .i64 k) = false → q ≠ p)
    (fun _ wr => wr.rangeLeft m w0.heap.size)
  case atStart =>
    refine ⟨_, _, hrg0, grown_below (Below.refl _ _) hg0 (fun j h => by cases h) (Nat.le_refl _), fun k q hq hl => ?_⟩
    have := HAG.out.has k
    rw [hl, hq] at this
    cases this
  case round =>
    obtain ⟨left, cnt, hrg, hbel, hno⟩ := hrel
    have HNO := Lib.hid hno
    clear hno
    go_wp2_with (first
      | (at_next; refine wpList_next_ranges _ rfl _ rfl 3 law ptElem (fun x : Int => .int .i64 x) (fun q : Pt => .agg #[.string q.1, .int .u32 q.2]) (fun key kl h => let ⟨x, h1, _, _⟩ := keyOf_int_inv Try.underlying3 h; ⟨x, h1⟩) (fun v y h => let ⟨q, h1, _⟩ := ptElem_inv h; ⟨q, h1⟩) m w0.heap.size n D left cnt rfl hrg ?_ ?_)
      | go_in)
    · intro hc0 hl0
      have HF := Lib.hid (taken_no fun k q hq => HNO.out k q hq (hl0 _))
      have HB := Lib.hid (HB0.out.trans (hbel.mono HB0.out.size))
      clear hbel hrg
      go_wp2_with fail
      go_ret
      exact ⟨by rw [HF.out]; rfl, HB.out⟩
    · intro x q1 q2 kl yd ys w2 cnt1 hkx hlx hy hat hrg1 hlt hg1 hs1 hen
      have hkl : kl = .int .i64 x := by
        obtain ⟨x', e1, e2, -⟩ := keyOf_int_inv Try.underlying3 hkx
        injection e1 with _ e1
        rw [e2, e1]
      subst hkl
      have hM : M x = some (q1, q2) := by
        have h1 := has_true_of_atKey hat
        rw [HAG.out.has x] at h1
        obtain ⟨q', hq'⟩ := Option.isSome_iff_exists.1 h1
        have h2 := HAG.out.at_ x q' hq' (.lit (.bool true))
        have h3 : ptDat (q1, q2) = yd := congrArg Prod.fst (Option.some.inj ((ptElem_mk (q1, q2)).symm.trans hy))
        have h4 : D.atKey (.int .i64 x) (.lit (.bool true)) = yd := hat _
        rw [h4, ← h3] at h2
        rw [hq', ptDat_inj h2]
      have hb2 : Below w0.heap.size w0 w2 := grown_below hbel hg1 (fun j hj => by cases hj; exact Nat.le_refl _) hbel.size
      have y0 := below_cells hb2 _ _ x0
      have y1 := below_cells hb2 _ _ x1
      have heq : ∀ w : World, (Op.equalIn 10000 35 (.agg #[.string q1, .int .u32 q2]) (.agg #[.string p.1, .int .u32 p.2])).run Try.prog w = .ok (decide ((q1, q2) = p)) w := fun w => eqIn_pt (q1, q2) p w
      have HRG := Lib.hid hrg1
      have HB2 := Lib.hid hb2
      have HM := Lib.hid hM
      have hml := hrg.left_eq
      clear hkx hy hat hg1 hs1 hb2 hrg1 hM
      go_upto_region 4 with fail
      have hrg3 := HRG.out.alloc (.cells #[.string q1, .int .u32 q2] 35)
      have hz := heap_alloc_new w2 (.cells #[.string q1, .int .u32 q2] 35)
      have hal : Below w2.heap.size w2 (w2.alloc (.cells #[.string q1, .int .u32 q2] 35)) := (Below.refl _ _).alloc (Nat.le_refl _) _
      obtain ⟨Q, hQ⟩ : ∃ q, q = w2.heap.size := ⟨_, rfl⟩
      rw [← hQ] at hz ⊢
      generalize w2.alloc (.cells #[.string q1, .int .u32 q2] 35) = w3 at *
      have HRG3 := Lib.hid hrg3
      have q0 : w3.cell? ⟨Q, 0, none⟩ = some (.string q1) := cell_at hz
      have q3 : w3.cell? ⟨Q, 1, none⟩ = some (.int .u32 q2) := cell_at hz
      replace y0 := below_cells hal _ _ y0
      replace y1 := below_cells hal _ _ y1
      have HB3 := Lib.hid (HB2.out.trans (hal.mono HB2.out.size))
      clear hz hal hQ hrg3
      by_cases hpq : (q1, q2) = p
      · have HT := Lib.hid (taken_yes (hpq ▸ HM.out))
        have hd : decide ((q1, q2) = p) = true := decide_eq_true hpq
        have hb3 := HB0.out.trans (HB3.out.mono HB0.out.size)
        have HBB := Lib.hid hb3
        rw [hd] at heq
        clear hb3 hbel hrg hml hd hpq HNO
        go_wp2_with fail
        go_ret
        exact ⟨by rw [HT.out]; rfl, HBB.out⟩
      · have hd : decide ((q1, q2) = p) = false := decide_eq_false hpq
        rw [hd] at heq
        have HPQ := Lib.hid hpq
        have HRGO := Lib.hid hrg
        clear hd hpq hrg
        go_wp2_with fail
        go_roundw
        case rel =>
          refine ⟨_, cnt1, HRG3.out, HB3.out, fun k q hq hl => ?_⟩
          by_cases hk : k = x
          · subst hk
            rw [HM.out] at hq
            cases hq
            exact HPQ.out
          · refine HNO.out k q hq ?_
            have hs := sameKey_ne (a := .int .i64 k) (b := .int .i64 x) (fun e => hk (by injection e))
            rw [hs] at hl
            simpa using hl
        case measure => rw [HRG3.out.left_eq, HRGO.out.left_eq]; exact hlt
end Go.Proofs.Ytelindgnkpfkiaa
