/-
  Locks, the fifteenth part: the document's Ripe. Conditions: none beyond each theorem's own.
-/
import Derived.Test.YtiicigpndagecaaLock14
namespace Go.Proofs.Ytiicigpndagecaa
open Go.RowKit Go.BigFrame
set_option linter.unusedVariables false

set_option maxRecDepth 100000 in
set_option maxHeartbeats 4000000 in
theorem rripe_any (v : Value) (t : PTx) (i c h : Int) (w : World) (hv : TxAt w v t) (hh1 : h ≤ 9223372036854775807) :
    Calls Try.prog 15 #[v, .int .i64 i, .int .i64 c, .int .i64 h] w (RipeIs t i c h w) := by
  obtain ⟨va, vc, au, nu, cu, rfl, hnm, hlk, hins⟩ := tx_shape hv
  have HV := Lib.hid hv
  have HINS := Lib.hid hins
  have hfin : ∀ ob, Below w.heap.size w (w.alloc ob) := fun ob => (Below.refl _ _).alloc (Nat.le_refl _) _
  have HFIN := Lib.hid hfin
  clear hv hins hfin
  cases hin : isIn t i
  case false =>
    have HR := Lib.hid (show ripeOf t i c h = false by unfold ripeOf; rw [hin]; rfl)
    have hor : i < 0 ∨ (t.ins.length : Int) ≤ i := by
      unfold isIn at hin
      rw [decide_eq_false_iff_not] at hin
      omega
    generalize t.ins.length = n at *
    clear hin
    by_cases h0 : i < 0
    · clear hor
      go_enter Try.func15, Try.ntmps15
      go_wp2
      go_ret
      exact ripe_is HR.out (HFIN.out _)
    · have hge : (n : Int) ≤ i := by omega
      clear hor
      go_enter Try.func15, Try.ntmps15
      go_wp2
      go_ret
      exact ripe_is HR.out (HFIN.out _)
  obtain ⟨k, rfl, hk⟩ := isIn_nat hin
  have hrip : ripeOf t k c h = (okHeight c && okHeight h && decide (c + waitsOf t k ≤ h) && (decide ((t.lock : Int) < h) || t.ins.all lastSeq)) := by unfold ripeOf; rw [hin]; simp
  have HRIP := Lib.hid hrip
  have HWT := Lib.hid (fun w' hw' => rwaits_any _ t k w' (HV.out.mono hw') hk)
  have hwl := waitsOf_lt t k
  clear hrip hin
  obtain ⟨n, hn⟩ : ∃ n, n = t.ins.length := ⟨_, rfl⟩
  rw [← hn] at hk hnm HINS HWT ⊢
  have HN := Lib.hid hn
  clear hn
  generalize waitsOf t k = wf at *
  generalize t.lock = lk at *
  generalize t.ver = ver at *
  by_cases hbad : c < 0 ∨ h < 0 ∨ 1000000 < c ∨ 1000000 < h
  · have HR := Lib.hid (show ripeOf t k c h = false by
      rw [HRIP.out]
      have : (okHeight c && okHeight h) = false := by
        unfold okHeight
        rcases hbad with h | h | h | h
        · rw [decide_eq_false (by omega)]; rfl
        · rw [Bool.and_eq_false_iff]; right; exact decide_eq_false (by omega)
        · rw [decide_eq_false (by omega)]; rfl
        · rw [Bool.and_eq_false_iff]; right; exact decide_eq_false (by omega)
      rw [this]; rfl)
    by_cases h1 : c < 0
    · clear hbad
      go_enter Try.func15, Try.ntmps15
      go_wp2
      go_ret
      exact ripe_is HR.out (HFIN.out _)
    by_cases h2 : h < 0
    · clear hbad
      go_enter Try.func15, Try.ntmps15
      go_wp2
      go_ret
      exact ripe_is HR.out (HFIN.out _)
    by_cases h3 : 1000000 < c
    · clear hbad
      go_enter Try.func15, Try.ntmps15
      go_wp2
      go_ret
      exact ripe_is HR.out (HFIN.out _)
    have h4 : 1000000 < h := by omega
    clear hbad
    go_enter Try.func15, Try.ntmps15
    go_wp2
    go_ret
    exact ripe_is HR.out (HFIN.out _)
  have hok : (okHeight c && okHeight h) = true := by
    unfold okHeight; rw [decide_eq_true (by omega), decide_eq_true (by omega)]; rfl
  have HOK := Lib.hid hok
  have hc0 : ¬ c < 0 := by omega
  have hh0 : ¬ h < 0 := by omega
  have hc1 : ¬ 1000000 < c := by omega
  have hh2 : ¬ 1000000 < h := by omega
  clear hok hbad
  go_enter Try.func15, Try.ntmps15
  go_wp2_with fail
  refine (HWT.out _ (fun p v hp => cell_over hp _)).mono ?_
  rintro e w1 ⟨rfl, hb1⟩
  have e1 : w1.heap[w.heap.size]? = _ := (hb1.block w.heap.size (by simp)).trans (heap_alloc_new w _)
  have hw1 : Below w.heap.size w w1 := ((Below.refl _ _).alloc (Nat.le_refl _) _).trans (hb1.mono (by simp))
  have q1 : w1.cell? ⟨w.heap.size, 1, none⟩ = _ := cell_at e1
  have q3 : w1.cell? ⟨w.heap.size, 3, none⟩ = _ := cell_at e1
  have HW1 := Lib.hid hw1
  have HI1 := Lib.hid (HINS.out.mono (below_cells hw1))
  clear hb1 e1 hw1
  by_cases hlt : h < c + wf
  · have HR := Lib.hid (show ripeOf t k c h = false by rw [HRIP.out, HOK.out, decide_eq_false (by omega)]; rfl)
    clear q1 q3
    go_wp2
    go_ret
    exact ripe_is HR.out HW1.out
  by_cases hl : (lk : Int) < h
  · have HR := Lib.hid (show ripeOf t k c h = true by rw [HRIP.out, HOK.out, decide_eq_true (by omega), decide_eq_true hl]; rfl)
    go_wp2
    go_ret
    exact ripe_is HR.out HW1.out
  have HR := Lib.hid (show ripeOf t k c h = t.ins.all lastSeq by rw [HRIP.out, HOK.out, decide_eq_true (by omega), decide_eq_false hl]; rfl)
  go_wp2_with fail
  go_loopw [10] (fun i wr => wr = w1 ∧ ∃ j : Nat, j ≤ n ∧ i = .int .i64 j ∧ ∀ q x, q < j → t.ins[q]? = some x → lastSeq x = true) (fun i _ => n - (intOf i).toNat)
  case atStart => exact ⟨rfl, 0, Nat.zero_le _, rfl, fun q x hq => absurd hq (Nat.not_lt_zero _)⟩
  case round =>
    obtain ⟨rfl, j, hj, rfl, hsame⟩ := hrel
    have HS := Lib.hid hsame
    by_cases hjn : j < n
    · obtain ⟨b, o, x, wv, rfl, hx, hseq, -, -, -, -, -, d2, -⟩ := HI1.out.inp hjn
      cases hls : lastSeq x
      · have hne : ((x.seq : Int) != 4294967295) = true := by
          have : ¬ x.seq = 4294967295 := of_decide_eq_false hls
          rw [bne_iff_ne]; omega
        have hall : t.ins.all lastSeq = false := by
          cases h : t.ins.all lastSeq
          · rfl
          · rw [List.all_eq_true] at h
            have := h x (List.mem_of_getElem? hx)
            rw [hls] at this
            cases this
        have HA := Lib.hid hall
        clear hx hseq hsame hall hls
        generalize x.seq = sq at *
        go_wp2
        go_ret
        exact ripe_is (by rw [HR.out, HA.out]) HW1.out
      · have hne : ((x.seq : Int) != 4294967295) = false := by
          have : x.seq = 4294967295 := of_decide_eq_true hls
          rw [this]; rfl
        have hnext : ∀ q y, q < j + 1 → t.ins[q]? = some y → lastSeq y = true := fun q y hq hy => by
          rcases Nat.lt_or_ge q j with h | h
          · exact HS.out q y h hy
          · obtain rfl : q = j := by omega
            rw [hx] at hy
            obtain rfl : x = y := Option.some.inj hy
            exact hls
        have HN2 := Lib.hid hnext
        clear hx hseq hsame hnext hls
        generalize x.seq = sq at *
        go_wp2
        go_roundw
        case rel => exact ⟨by trivial, j + 1, by omega, by go_num, HN2.out⟩
        case measure => simp [intOf]; omega
    · obtain rfl : j = n := by omega
      have hall : t.ins.all lastSeq = true := by
        rw [List.all_eq_true]
        intro x hx
        obtain ⟨q, hq, rfl⟩ := List.getElem_of_mem hx
        exact hsame q _ (by rw [HN.out]; exact hq) (List.getElem?_eq_getElem hq)
      have HA := Lib.hid hall
      clear hsame hall
      go_wp2
      go_ret
      exact ripe_is (by rw [HR.out, HA.out]) HW1.out

end Go.Proofs.Ytiicigpndagecaa
