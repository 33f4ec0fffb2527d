/-
  Locks, the twelfth part: the document's Open. Conditions: none beyond each theorem's own.
-/
import Derived.Test.YtiicigpndagecaaLock11
namespace Go.Proofs.Ytiicigpndagecaa
open Go.RowKit Go.BigFrame
set_option linter.unusedVariables false

theorem rsig_none {v : Value} {ws : List ByteArray} {w : World} (h : signedOf ws = none) (hv : SlAt rpStr w v ws) : Calls Try.prog 25 #[v] w fun e w' => e = .returned (.tuple #[.int .i64 (-1), .int .i64 0]) ∧ Below w.heap.size w w' :=
  (rsigned_any v ws w hv).mono fun e w' ⟨h1, h3⟩ => ⟨by rw [h1, h]; rfl, h3⟩
theorem rsig_some {v : Value} {ws : List ByteArray} {w : World} {n t : Nat} (h : signedOf ws = some (n, t)) (hv : SlAt rpStr w v ws) : Calls Try.prog 25 #[v] w fun e w' => e = .returned (.tuple #[.int .i64 n, .int .i64 t]) ∧ Below w.heap.size w w' :=
  (rsigned_any v ws w hv).mono fun e w' ⟨h1, h3⟩ => ⟨by rw [h1, h]; rfl, h3⟩

theorem chosen_none {s : ByteArray} {ws : List ByteArray} (h : signedOf ws = none) : chosenOf s ws = (⟨0, 0, 0⟩, false) := by
  unfold chosenOf; rw [h]; split <;> simp_all
theorem chosen_out {s : ByteArray} {ws : List ByteArray} {n t : Nat} (h : signedOf ws = some (n, t)) (hl : ¬ n < ((lockGet s).getD []).length) : chosenOf s ws = (⟨0, 0, 0⟩, false) := by
  unfold chosenOf; rw [h]
  cases hg : lockGet s with
  | none => rfl
  | some l =>
    rw [hg] at hl
    dsimp only
    rw [List.getElem?_eq_none (by simpa using hl)]
theorem chosen_in {s : ByteArray} {ws : List ByteArray} {n t : Nat} {x : PBr} (h : signedOf ws = some (n, t)) (hx : ((lockGet s).getD [])[n]? = some x) : chosenOf s ws = (x, x.tag == 0 || x.tag == t) := by
  unfold chosenOf; rw [h]
  cases hg : lockGet s with
  | none => rw [hg] at hx; simp at hx
  | some l =>
    rw [hg] at hx
    dsimp only
    rw [show l[n]? = some x from hx]

set_option maxRecDepth 100000 in
set_option maxHeartbeats 4000000 in
theorem ropen_any (s : ByteArray) (hs : s.size ≤ 9223372036854775807) (v : Value) (t : PTx) (i : Int) (w : World) (hv : TxAt w v t) :
    Calls Try.prog 12 #[.string s, v, .int .i64 i] w (OpenIs s t i w) := by
  cases hin : isIn t i
  case false =>
    have hv0 := hv
    obtain ⟨a, u, rfl, h1, h2, -, -⟩ := hv0
    obtain ⟨au, cu, rfl, -, -⟩ := h2.shape
    obtain ⟨aa, ca, rfl, -, hc⟩ := h1.shape
    rw [maxLen_eq] at hc
    have HO := Lib.hid (openOf_no (s := s) hin)
    have hor : i < 0 ∨ (t.ins.length : Int) ≤ i := by
      unfold isIn at hin
      rw [decide_eq_false_iff_not] at hin
      omega
    generalize t.ins.length = n at *
    clear hv h1 h2 hin hs
    have hfin : ∀ ob, Below w.heap.size w (w.alloc ob) := fun ob => (Below.refl _ _).alloc (Nat.le_refl _) _
    by_cases h0 : i < 0
    · clear hor
      go_enter Try.func12, Try.ntmps12
      go_wp2
      go_ret
      exact open_is HO.out (hfin _)
    · have hge : (n : Int) ≤ i := by omega
      clear hor
      go_enter Try.func12, Try.ntmps12
      go_wp2
      go_ret
      exact open_is HO.out (hfin _)
  case true =>
    obtain ⟨k, rfl, hk⟩ := isIn_nat hin
    obtain ⟨b, o, n, c, au, nu, cu, x, wv, rfl, hn, hnm, hx, hseq, hver, hlock, hwit, hc2, hc3⟩ := tx_in hv hk
    have hwt := fun w' hw' => rwaits_any _ t k w' (hv.mono hw') hk
    have hwl := waitsOf_lt t k
    have ho := openOf_at (s := s) hx
    have hget := rlget_any s hs
    unfold openAt at ho
    rw [hn.symm] at hk
    obtain ⟨wf, hwf⟩ : ∃ wf, waitsOf t k = wf := ⟨_, rfl⟩
    rw [hwf] at hwt hwl ho
    have HWT := Lib.hid hwt
    have HGET := Lib.hid hget
    have HO := Lib.hid ho
    have HV := Lib.hid hwit
    clear hwt ho hin hv hx hwit hs hwf hn hget
    generalize x.seq = sq at *
    generalize t.ver = ver at *
    generalize t.lock = lk at *
    go_enter Try.func12, Try.ntmps12
    go_wp2_with fail
    refine (HGET.out _).mono ?_
    rintro e w1 ⟨u, rfl, hu, hb1⟩
    have e1 : w1.heap[w.heap.size]? = _ := (hb1.block w.heap.size (by simp)).trans (heap_alloc_new w _)
    have hw1 : Below w.heap.size w w1 := ((Below.refl _ _).alloc (Nat.le_refl _) _).trans (hb1.mono (by simp))
    have hsz1 : w.heap.size < w1.heap.size := (Array.getElem?_eq_some_iff.1 e1).1
    have q1 : w1.cell? ⟨w.heap.size, 1, none⟩ = _ := cell_at e1
    have p3 := below_cells hw1 _ _ hc3
    have HW1 := Lib.hid hw1
    have HE1 := Lib.hid e1
    have HU := Lib.hid hu
    have HV1 := Lib.hid (HV.out.below hw1)
    obtain ⟨ua, uc, rfl, hul, hum⟩ := hu.shape
    rw [maxLen_eq] at hum
    have p2 := below_cells hw1 _ _ hc2
    have HP2 := Lib.hid p2
    clear hb1 e1 hw1 hc2 hc3 hu p2
    cases hsg : signedOf x.wit with
    | none =>
      have HS := Lib.hid (rsig_none hsg HV1.out)
      have HC := Lib.hid (chosen_none (s := s) hsg)
      clear hsg
      go_wp2_with fail
      refine HS.out.mono ?_
      rintro e w2 ⟨rfl, hb2⟩
      clear q1 p3
      go_wp2
      go_ret
      exact open_is (by rw [HO.out, HC.out]; rfl) (HW1.out.trans (hb2.mono (Nat.le_of_lt hsz1)))
    | some nt =>
      obtain ⟨m, tg⟩ := nt
      obtain ⟨hm3, htg⟩ := signedOf_lt hsg
      have HS := Lib.hid (rsig_some hsg HV1.out)
      by_cases hml : m < ((lockGet s).getD []).length
      case neg =>
        have HC := Lib.hid (chosen_out (s := s) hsg hml)
        clear hsg
        go_wp2_with fail
        refine HS.out.mono ?_
        rintro e w2 ⟨rfl, hb2⟩
        clear q1 p3
        generalize ((lockGet s).getD []).length = ll at *
        go_wp2
        go_ret
        exact open_is (by rw [HO.out, HC.out]; rfl) (HW1.out.trans (hb2.mono (Nat.le_of_lt hsz1)))
      case pos =>
        go_wp2_with fail
        refine HS.out.mono ?_
        rintro e w2 ⟨rfl, hb2⟩
        obtain ⟨bb, oo, y, rfl, hy, hyo, d0, d1, d2⟩ := (HU.out.below hb2).br hml
        have HC := Lib.hid (chosen_in (s := s) hsg hy)
        obtain ⟨y1, y2, y3⟩ := y
        obtain ⟨ht1, ht2, ht3⟩ := hyo
        dsimp only at d0 d1 d2 ht1 ht2 ht3
        have hw2 := HW1.out.trans (hb2.mono (Nat.le_of_lt hsz1))
        have e2 := (hb2.block w.heap.size hsz1).trans HE1.out
        have hsz2 : w.heap.size < w2.heap.size := Nat.lt_of_lt_of_le hsz1 hb2.size
        have HW2 := Lib.hid hw2
        have HE2 := Lib.hid e2
        have q0 : w2.cell? ⟨w.heap.size, 0, none⟩ = _ := cell_at e2
        have q1 : w2.cell? ⟨w.heap.size, 1, none⟩ = _ := cell_at e2
        have q2 : w2.cell? ⟨w.heap.size, 2, none⟩ = _ := cell_at e2
        have q3 : w2.cell? ⟨w.heap.size, 3, none⟩ = _ := cell_at e2
        have p2 := below_cells hb2 _ _ HP2.out
        have q0 := fun ob => cell_over q0 ob
        have q1 := fun ob => cell_over q1 ob
        have q2 := fun ob => cell_over q2 ob
        have q3 := fun ob => cell_over q3 ob
        have p2 := fun ob => cell_over p2 ob
        have HP := Lib.hid p2
        have HQ1 := Lib.hid q1
        have HQ3 := Lib.hid q3
        have hmm := below_cells hw2
        have HMM := Lib.hid hmm
        generalize ((lockGet s).getD []).length = ll at *
        clear hsg hb2 hy hw2 e2 hmm p3
        rename_i q1w1
        clear q1w1
        by_cases hz : y1 = 0 ∨ y1 = tg
        case neg =>
          have hz0 : ((y1 : Int) != 0) = true := by rw [bne_iff_ne]; omega
          have hz1 : ((y1 : Int) != tg) = true := by rw [bne_iff_ne]; omega
          have hcf : chosenOf s x.wit = (⟨y1, y2, y3⟩, false) := by
            rw [HC.out]
            have a1 : (y1 == 0) = false := by rw [beq_eq_false_iff_ne]; omega
            have a2 : (y1 == tg) = false := by rw [beq_eq_false_iff_ne]; omega
            dsimp only
            rw [a1, a2]
            rfl
          have HCF := Lib.hid hcf
          clear hz hcf
          go_wp2
          go_ret
          exact open_is (by rw [HO.out, HCF.out]; rfl) (HW2.out.alloc HW2.out.size _)
        case pos =>
          have hcf : chosenOf s x.wit = (⟨y1, y2, y3⟩, true) := by
            rw [HC.out]
            rcases hz with rfl | rfl <;> simp
          have HCF := Lib.hid hcf
          have hzz : (((y1 : Int) != 0) = false) ∨ (((y1 : Int) != 0) = true ∧ ((y1 : Int) != tg) = false) := by
            by_cases h0 : y1 = 0
            · subst h0; exact .inl rfl
            · right
              refine ⟨by rw [bne_iff_ne]; omega, ?_⟩
              have : y1 = tg := hz.resolve_left h0
              subst this
              simp
          clear hz hcf
          rcases hzz with hz0 | ⟨hz0, hz1⟩
          all_goals
            go_wp2_with fail
            refine (HWT.out _ (fun p u hp => cell_over (HMM.out p u hp) _)).mono ?_
            rintro e w3 ⟨rfl, hb3⟩
            have hn0 : ∀ j u, (#[Value.int .u16 y1, .int .u16 y2, .int .u32 y3] : Array Value)[j]? = some u → (w2.alloc (.cells #[.int .u16 y1, .int .u16 y2, .int .u32 y3] 51)).cell? ⟨w2.heap.size, j, none⟩ = some u :=
              fun j u h => by rw [cell_at (heap_alloc_new w2 _)]; exact h
            have g0 := below_cells hb3 _ _ (hn0 0 _ rfl)
            have g1 := below_cells hb3 _ _ (hn0 1 _ rfl)
            have g2 := below_cells hb3 _ _ (hn0 2 _ rfl)
            clear hn0
            have r1 := below_cells hb3 _ _ (HQ1.out _)
            have r3 := below_cells hb3 _ _ (HQ3.out _)
            have r5 := below_cells hb3 _ _ (HP.out _)
            have hw3 : Below w.heap.size w w3 := (HW2.out.alloc HW2.out.size _).trans (hb3.mono (by simp; omega))
            have HFIN := Lib.hid hw3
            clear q0 q1 q2 q3 p2 hb3 hw3 d0 d1 d2
            by_cases h1 : wf < y2
            · go_wp2
              go_ret
              exact open_is (by rw [HO.out, HCF.out, if_neg (by simp)]; dsimp only; rw [if_pos h1]) HFIN.out
            by_cases h2 : 0 < y3
            case neg =>
              go_wp2
              go_ret
              exact open_is (by rw [HO.out, HCF.out, if_neg (by simp)]; dsimp only; rw [if_neg h1, if_neg (fun h => h2 h.1)]) HFIN.out
            by_cases h3 : lk < y3
            · go_wp2
              go_ret
              exact open_is (by rw [HO.out, HCF.out, if_neg (by simp)]; dsimp only; rw [if_neg h1, if_pos ⟨h2, .inl h3⟩]) HFIN.out
            by_cases h4 : sq = 4294967295
            · have hb4 : ((sq : Int) == 4294967295) = true := by rw [beq_iff_eq]; omega
              have H4 := Lib.hid h4
              clear h4
              go_wp2
              go_ret
              exact open_is (by rw [HO.out, HCF.out, if_neg (by simp)]; dsimp only; rw [if_neg h1, if_pos ⟨h2, .inr H4.out⟩]) HFIN.out
            · have hb4 : ((sq : Int) == 4294967295) = false := by rw [beq_eq_false_iff_ne]; omega
              have H4 := Lib.hid h4
              clear h4
              go_wp2
              go_ret
              exact open_is (by rw [HO.out, HCF.out, if_neg (by simp)]; dsimp only; rw [if_neg h1, if_neg (fun h => h.2.elim h3 H4.out)]) HFIN.out

end Go.Proofs.Ytiicigpndagecaa
