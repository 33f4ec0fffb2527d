/-
  CheckFeesCard, part 4: the texts TxK, TxL, TxN, Cmp, TxG, New, Va, Inv, Reg, V10, one after another. Conditions: none beyond those named at each.
-/
import Derived.Test.YtelindgnkpfkiaaGreatDoorTxM
import Derived.Test.YtelindgnkpfkiaaGreatDoorQ2CheckFeesCard
import Derived.Lib.Bytealg
import Derived.Deep.RegionHeld
import Derived.Deep.DrawnRows
import Derived.Test.YtelindgnkpfkiaaGreatDoorQ1CheckFeesCard
section
/-
  tx.Check. Conditions: no more than a thousand Outs.
-/
namespace Go.Proofs.YtelindgnkpfkiaaGreatDoor
open Go.RowKit Go.BigFrame
set_option linter.unusedVariables false
set_option linter.unusedSimpArgs false

def sumOf (t : PTx) : Int × Int := sumA 0 (t.outs.map (·.val))
noncomputable def checkOf (t : PTx) : Int := if countsOf t then (if longOf t then 20 else if formedOf t then (if dup (ptsOf t) then 7 else (sumOf t).2) else 4) else 6
def CIs (c : Int) (w : World) (e : Ending) (w' : World) : Prop := e = .returned (.int .i64 c) ∧ Below w.heap.size w w'

theorem TB.tx {w : World} {va vo : Value} {t : PTx} {wr : World} (h : TB w va vo t wr) (hv : t.ver < 4294967296 ∧ t.lock < 4294967296) : TxAt wr (.agg #[.int .u32 t.ver, va, vo, .int .u32 t.lock]) t :=
  ⟨va, vo, rfl, h.ins, h.outs, hv.1, hv.2⟩

set_option maxRecDepth 100000 in
set_option maxHeartbeats 2000000 in
theorem check_any (v : Value) (t : PTx) (w : World) (hv : TxAt w v t) (hlen : t.outs.length ≤ 1000) : Calls Tryz.prog 65 #[v] w (CIs (checkOf t) w) := by
  obtain ⟨va, vo, rfl, hia, hob, hv1, hv2⟩ := hv
  obtain ⟨a, c, rfl, hl1, hl2⟩ := hia.shape
  obtain ⟨a', c', rfl, hl1', hl2'⟩ := hob.shape
  have htb := TB.start hia hob
  have HTB := Lib.hid htb
  have HV := Lib.hid (And.intro hv1 hv2)
  have HL := Lib.hid hlen
  clear htb hia hob hv1 hv2 hl1 hl2 hl1' hl2' hlen
  obtain ⟨r, hr⟩ : ∃ r, r = checkOf t := ⟨_, rfl⟩
  rw [← hr]
  unfold checkOf at hr
  have HR := Lib.hid hr
  clear hr
  go_enter Tryz.func65, Tryz.ntmps65
  go_upto_region 1 with fail
  obtain ⟨n, hn⟩ : ∃ n, n = t.ins.length := ⟨_, rfl⟩
  obtain ⟨n', hn'⟩ : ∃ n, n = t.outs.length := ⟨_, rfl⟩
  rw [← hn, ← hn'] at HTB
  rw [← hn, ← hn']
  clear hn hn'
  generalize w.alloc (.cells #[.int .u32 t.ver, .slice a n c, .slice a' n' c', .int .u32 t.lock] 35) = w0 at *
  have c0 : w0.cell? ⟨w.heap.size, 0, none⟩ = some (.int .u32 t.ver) := cell_at HTB.out.box
  have c1 : w0.cell? ⟨w.heap.size, 1, none⟩ = some (.slice a n c) := cell_at HTB.out.box
  have c2 : w0.cell? ⟨w.heap.size, 2, none⟩ = some (.slice a' n' c') := cell_at HTB.out.box
  have c3 : w0.cell? ⟨w.heap.size, 3, none⟩ = some (.int .u32 t.lock) := cell_at HTB.out.box
  go_wp2_with fail
  refine (total_any _ t w0 (HTB.out.tx HV.out) HL.out).mono ?_
  rintro e w1 ⟨rfl, hb⟩
  have HT1 := Lib.hid (HTB.out.next hb)
  replace c0 := below_cells hb _ _ c0
  replace c1 := below_cells hb _ _ c1
  replace c2 := below_cells hb _ _ c2
  replace c3 := below_cells hb _ _ c3
  clear hb HTB
  have HSM := Lib.hid (show sumOf t = sumA 0 (t.outs.map (·.val)) from rfl)
  rw [← HSM.out]
  generalize sumOf t = sm at *
  go_wp2_with fail
  refine (counts_any _ t w1 (HT1.out.tx HV.out)).mono ?_
  rintro e w2 ⟨rfl, hb⟩
  have HT2 := Lib.hid (HT1.out.next hb)
  replace c0 := below_cells hb _ _ c0
  replace c1 := below_cells hb _ _ c1
  replace c2 := below_cells hb _ _ c2
  replace c3 := below_cells hb _ _ c3
  clear hb HT1
  generalize countsOf t = b1 at *
  cases b1
  · go_wp2_with fail
    go_ret
    exact ⟨by rw [HR.out]; rfl, HT2.out.bel⟩
  go_wp2_with fail
  refine (long_any _ t w2 (HT2.out.tx HV.out)).mono ?_
  rintro e w3 ⟨rfl, hb⟩
  have HT3 := Lib.hid (HT2.out.next hb)
  replace c0 := below_cells hb _ _ c0
  replace c1 := below_cells hb _ _ c1
  replace c2 := below_cells hb _ _ c2
  replace c3 := below_cells hb _ _ c3
  clear hb HT2
  generalize longOf t = b2 at *
  cases b2
  rotate_left
  · go_wp2_with fail
    go_ret
    exact ⟨by rw [HR.out]; rfl, HT3.out.bel⟩
  go_wp2_with fail
  refine (formed_any _ t w3 (HT3.out.tx HV.out)).mono ?_
  rintro e w4 ⟨rfl, hb⟩
  have HT4 := Lib.hid (HT3.out.next hb)
  replace c0 := below_cells hb _ _ c0
  replace c1 := below_cells hb _ _ c1
  replace c2 := below_cells hb _ _ c2
  replace c3 := below_cells hb _ _ c3
  clear hb HT3
  generalize formedOf t = b3 at *
  cases b3
  · go_wp2_with fail
    go_ret
    exact ⟨by rw [HR.out]; rfl, HT4.out.bel⟩
  go_wp2_with fail
  refine (twice_any _ t w4 (HT4.out.tx HV.out)).mono ?_
  rintro e w5 ⟨rfl, hb⟩
  have HT5 := Lib.hid (HT4.out.next hb)
  clear hb HT4
  generalize dup (ptsOf t) = b4 at *
  cases b4
  · go_wp2_with fail
    go_ret
    exact ⟨by rw [HR.out]; rfl, HT5.out.bel⟩
  · go_wp2_with fail
    go_ret
    exact ⟨by rw [HR.out]; rfl, HT5.out.bel⟩
end Go.Proofs.YtelindgnkpfkiaaGreatDoor
end

section
/-
  The document's long and Check. Conditions: no more than a thousand Outs.
-/
namespace Go.Proofs.YtelindgnkpfkiaaGreatDoor
open Go.RowKit Go.BigFrame
set_option linter.unusedVariables false
set_option linter.unusedSimpArgs false

theorem any_at {α : Type} {p : α → Bool} {xs : List α} {k : Nat} {x : α} (hx : xs[k]? = some x) (hp : p x = true) : xs.any p = true := List.any_eq_true.2 ⟨x, List.mem_of_getElem? hx, hp⟩

set_option maxRecDepth 100000 in
set_option maxHeartbeats 2000000 in
theorem rlong_any (v : Value) (t : PTx) (w : World) (hv : TxAt w v t) : Calls Tryz.prog 67 #[v] w (BIs (longOf t) w) := by
  obtain ⟨va, vo, rfl, hia, hob, hv1, hv2⟩ := hv
  obtain ⟨a, c, rfl, hl1, hl2⟩ := hia.shape
  obtain ⟨a', c', rfl, hl1', hl2'⟩ := hob.shape
  rw [maxLen_eq] at hl2 hl2'
  have htb := TB.start hia hob
  have HTB := Lib.hid htb
  clear htb hia hob hv1 hv2
  obtain ⟨r, hr⟩ : ∃ r, r = longOf t := ⟨_, rfl⟩
  rw [← hr]
  unfold longOf at hr
  have HR := Lib.hid hr
  clear hr
  obtain ⟨n, hn⟩ : ∃ n, n = t.ins.length := ⟨_, rfl⟩
  obtain ⟨n', hn'⟩ : ∃ n, n = t.outs.length := ⟨_, rfl⟩
  rw [← hn, ← hn'] at HTB
  rw [← hn] at hl1 ⊢
  rw [← hn'] at hl1' ⊢
  have HN := Lib.hid hn
  have HN' := Lib.hid hn'
  clear hn hn'
  go_enter Tryz.func67, Tryz.ntmps67
  go_upto_region 1 with fail
  generalize w.alloc (.cells #[.int .u32 t.ver, .slice a n c, .slice a' n' c', .int .u32 t.lock] 35) = w0 at *
  have c1 : w0.cell? ⟨w.heap.size, 1, none⟩ = some (.slice a n c) := cell_at HTB.out.box
  have c2 : w0.cell? ⟨w.heap.size, 2, none⟩ = some (.slice a' n' c') := cell_at HTB.out.box
  go_wp2_with fail
  go_loopg [3] n' (fun g i wr => ∃ (k : Nat), g = n' - k ∧ k ≤ n' ∧ i = .int .i64 k ∧ wr = w0 ∧ ∀ (j : Nat) (y : POut), j < k → t.outs[j]? = some y → decide (40 < y.script.size) = false)
  case atStart => exact ⟨0, rfl, by omega, rfl, rfl, fun j y hj => absurd hj (Nat.not_lt_zero _)⟩
  case round =>
    rename World => wo
    obtain ⟨k, hgk, hk, rfl, rfl, hall⟩ := hrel
    have HGK := Lib.hid hgk
    have HALL := Lib.hid hall
    clear hgk hall
    by_cases hlt : k < n'
    · obtain ⟨b, o, x, rfl, hx, hok, d0, d1⟩ := HTB.out.outs.outp hlt
      have hsl : x.script.size ≤ 9223372036854775807 := by have := hok.2; rw [maxLen_eq] at this; exact this
      have HX := Lib.hid hx
      clear hx hok d0
      by_cases h40 : 40 < x.script.size
      · have HF := Lib.hid (any_at (p := fun x : POut => decide (40 < x.script.size)) HX.out (decide_eq_true h40))
        go_wp2_with fail
        go_ret
        exact ⟨ret_bool (by rw [HR.out, HF.out]; rfl), HTB.out.bel⟩
      · have HNX := Lib.hid (before_step HALL.out HX.out (decide_eq_false h40))
        go_wp2_with fail
        go_roundg (n' - (k + 1))
        case measure => have := HGK.out; omega
        case rel => exact ⟨k + 1, rfl, by omega, by go_num, rfl, HNX.out⟩
    · obtain rfl : k = n' := by omega
      have HO := Lib.hid (any_no HN'.out HALL.out)
      rw [HO.out, Bool.false_or] at HR
      clear HALL HGK hlt hk
      go_wp2_with fail
      go_loopg [4] n (fun g i wr => ∃ (k : Nat), g = n - k ∧ k ≤ n ∧ i = .int .i64 k ∧ wr = wo ∧ ∀ (j : Nat) (y : PIn), j < k → t.ins[j]? = some y → longIn y = false)
      case atStart => exact ⟨0, rfl, by omega, rfl, rfl, fun j y hj => absurd hj (Nat.not_lt_zero _)⟩
      case round =>
        rename World => wp
        obtain ⟨k, hgk, hk, rfl, rfl, hall⟩ := hrel
        have HGK := Lib.hid hgk
        have HALL := Lib.hid hall
        clear hgk hall
        by_cases hlt : k < n
        · obtain ⟨b, o, x, wv, rfl, hx, hseq, hidx, hid, hwv, d0, d1, d2, d3⟩ := HTB.out.ins.inp hlt
          obtain ⟨wa, wc, rfl, hw1, hw2⟩ := hwv.shape
          rw [maxLen_eq] at hw2
          have HX := Lib.hid hx
          obtain ⟨wl, hwl⟩ : ∃ wl, wl = x.wit.length := ⟨_, rfl⟩
          rw [← hwl] at hwv hw1 d3
          have HWV := Lib.hid hwv
          have HWL := Lib.hid hwl
          clear hx hwv hwl d0 d1 d2
          go_wp2_with fail
          go_loopg [5] wl (fun g i wr => ∃ (q : Nat), g = wl - q ∧ q ≤ wl ∧ i = .int .i64 q ∧ wr = wp ∧ ∀ (j : Nat) (y : ByteArray), j < q → x.wit[j]? = some y → decide (80 < y.size) = false)
          case atStart => exact ⟨0, rfl, by omega, rfl, rfl, fun j y hj => absurd hj (Nat.not_lt_zero _)⟩
          case round =>
            rename World => wq
            obtain ⟨q, hgq, hq, rfl, rfl, hall⟩ := hrel
            have HGQ := Lib.hid hgq
            have HAQ := Lib.hid hall
            clear hgq hall
            by_cases hql : q < wl
            · obtain ⟨b2, o2, y, rfl, hy, hys, e0⟩ := HWV.out.str hql
              have HY := Lib.hid hy
              clear hy
              by_cases h80 : 80 < y.size
              · have HF := Lib.hid (any_at (p := longIn) HX.out (any_at (p := fun s : ByteArray => decide (80 < s.size)) HY.out (decide_eq_true h80)))
                go_wp2_with fail
                go_ret
                exact ⟨ret_bool (by rw [HR.out, HF.out]), HTB.out.bel⟩
              · have HNX := Lib.hid (before_step HAQ.out HY.out (decide_eq_false h80))
                go_wp2_with fail
                go_roundg (wl - (q + 1))
                case measure => have := HGQ.out; omega
                case rel => exact ⟨q + 1, rfl, by omega, by go_num, rfl, HNX.out⟩
            · obtain rfl : q = wl := by omega
              have HNX := Lib.hid (before_step HALL.out HX.out (show longIn x = false from any_no HWL.out HAQ.out))
              go_wp2_with fail
              go_roundg (n - (k + 1))
              case measure => have := HGK.out; omega
              case rel => exact ⟨k + 1, rfl, by omega, by go_num, rfl, HNX.out⟩
        · obtain rfl : k = n := by omega
          have HF := Lib.hid (any_no HN.out HALL.out)
          go_wp2_with fail
          go_ret
          exact ⟨ret_bool (by rw [HR.out, HF.out]), HTB.out.bel⟩
end Go.Proofs.YtelindgnkpfkiaaGreatDoor
end

section
/-
  The document's Check. Conditions: no more than a thousand Outs.
-/
namespace Go.Proofs.YtelindgnkpfkiaaGreatDoor
open Go.RowKit Go.BigFrame
set_option linter.unusedVariables false
set_option linter.unusedSimpArgs false

theorem check_counts {t : PTx} (h : countsOf t = false) : checkOf t = 6 := by unfold checkOf; rw [h]; rfl
theorem check_long {t : PTx} (h : countsOf t = true) (h2 : longOf t = true) : checkOf t = 20 := by unfold checkOf; rw [h, h2]; rfl
theorem check_form {t : PTx} (h : countsOf t = true) (h2 : longOf t = false) (h3 : formedOf t = false) : checkOf t = 4 := by unfold checkOf; rw [h, h2, h3]; rfl
theorem check_dup {t : PTx} (h : countsOf t = true) (h2 : longOf t = false) (h3 : formedOf t = true) (h4 : dup (ptsOf t) = true) : checkOf t = 7 := by unfold checkOf; rw [h, h2, h3, h4]; rfl
theorem check_sum {t : PTx} (h : countsOf t = true) (h2 : longOf t = false) (h3 : formedOf t = true) (h4 : dup (ptsOf t) = false) : checkOf t = (sumOf t).2 := by unfold checkOf; rw [h, h2, h3, h4]; rfl
theorem counts_of {t : PTx} (h : 1 ≤ t.ins.length ∧ t.ins.length ≤ 256 ∧ 1 ≤ t.outs.length ∧ t.outs.length ≤ 256) (hw : (t.ins.any fun x => decide (4 < x.wit.length)) = false) : countsOf t = true := by
  unfold countsOf
  rw [hw, decide_eq_true h.1, decide_eq_true h.2.1, decide_eq_true h.2.2.1, decide_eq_true h.2.2.2]
  rfl
theorem counts_not {t : PTx} (h : ¬ (1 ≤ t.ins.length ∧ t.ins.length ≤ 256 ∧ 1 ≤ t.outs.length ∧ t.outs.length ≤ 256)) : countsOf t = false := by
  cases hc : countsOf t
  · rfl
  · exfalso
    apply h
    unfold countsOf at hc
    simp only [Bool.and_eq_true, decide_eq_true_eq] at hc
    exact ⟨hc.1.1.1, hc.1.1.2, hc.1.2.1, hc.1.2.2⟩
theorem counts_wit {t : PTx} (h : (t.ins.any fun x => decide (4 < x.wit.length)) = true) : countsOf t = false := by
  unfold countsOf
  rw [h]
  simp

theorem ne_step {ps : List Pt} {p z : Pt} {j : Nat} (h : ∀ (l : Nat) (z : Pt), l < j → ps[l]? = some z → z ≠ p) (hz : ps[j]? = some z) (hne : z ≠ p) : ∀ (l : Nat) (z : Pt), l < j + 1 → ps[l]? = some z → z ≠ p := by
  intro l z' hl hz'
  rcases Nat.lt_or_ge l j with h1 | h1
  · exact h l z' h1 hz'
  · obtain rfl : l = j := by omega
    rw [hz] at hz'
    obtain rfl := Option.some.inj hz'
    exact hne
theorem ne_mem {ps : List Pt} {p : Pt} {k : Nat} (h : ∀ (l : Nat) (z : Pt), l < k → ps[l]? = some z → z ≠ p) : p ∉ ps.take k := by
  intro hm
  obtain ⟨l, hl⟩ := List.mem_iff_getElem?.1 hm
  rw [List.getElem?_take] at hl
  by_cases hlk : l < k
  · rw [if_pos hlk] at hl
    exact h l p hlk hl rfl
  · rw [if_neg hlk] at hl
    cases hl

set_option maxRecDepth 100000 in
set_option maxHeartbeats 4000000 in
theorem rcheck_any (v : Value) (t : PTx) (w : World) (hv : TxAt w v t) (hlen : t.outs.length ≤ 1000) : Calls Tryz.prog 41 #[v] w (CIs (checkOf t) w) := by
  obtain ⟨va, vo, rfl, hia, hob, hv1, hv2⟩ := hv
  obtain ⟨a, c, rfl, hl1, hl2⟩ := hia.shape
  obtain ⟨a', c', rfl, hl1', hl2'⟩ := hob.shape
  rw [maxLen_eq] at hl2 hl2'
  have htb := TB.start hia hob
  have HTB := Lib.hid htb
  have HV := Lib.hid (And.intro hv1 hv2)
  have HL := Lib.hid hlen
  clear htb hia hob hv1 hv2 hlen
  obtain ⟨r, hr⟩ : ∃ r, r = checkOf t := ⟨_, rfl⟩
  rw [← hr]
  have HR := Lib.hid hr
  clear hr
  obtain ⟨n, hn⟩ : ∃ n, n = t.ins.length := ⟨_, rfl⟩
  obtain ⟨n', hn'⟩ : ∃ n, n = t.outs.length := ⟨_, rfl⟩
  rw [← hn, ← hn'] at HTB
  rw [← hn] at hl1 ⊢
  rw [← hn'] at hl1' ⊢
  have HN := Lib.hid hn
  have HN' := Lib.hid hn'
  clear hn hn'
  go_enter Tryz.func41, Tryz.ntmps41
  go_upto_region 1 with fail
  generalize w.alloc (.cells #[.int .u32 t.ver, .slice a n c, .slice a' n' c', .int .u32 t.lock] 35) = w0 at *
  have c1 : w0.cell? ⟨w.heap.size, 1, none⟩ = some (.slice a n c) := cell_at HTB.out.box
  have c2 : w0.cell? ⟨w.heap.size, 2, none⟩ = some (.slice a' n' c') := cell_at HTB.out.box
  by_cases hc : 1 ≤ n ∧ n ≤ 256 ∧ 1 ≤ n' ∧ n' ≤ 256
  rotate_left
  · have HF := Lib.hid (check_counts (counts_not (by rw [← HN.out, ← HN'.out]; exact hc)))
    have hnot : ¬ (1 ≤ n) ∨ (1 ≤ n ∧ ¬ n ≤ 256) ∨ (1 ≤ n ∧ n ≤ 256 ∧ ¬ 1 ≤ n') ∨ (1 ≤ n ∧ n ≤ 256 ∧ 1 ≤ n' ∧ ¬ n' ≤ 256) := by omega
    clear hc
    rcases hnot with h1 | ⟨h1, h2⟩ | ⟨h1, h2, h3⟩ | ⟨h1, h2, h3, h4⟩
    · go_wp2_with fail
      go_ret
      exact ⟨by rw [HR.out, HF.out]; rfl, HTB.out.bel⟩
    · go_wp2_with fail
      go_ret
      exact ⟨by rw [HR.out, HF.out]; rfl, HTB.out.bel⟩
    · go_wp2_with fail
      go_ret
      exact ⟨by rw [HR.out, HF.out]; rfl, HTB.out.bel⟩
    · go_wp2_with fail
      go_ret
      exact ⟨by rw [HR.out, HF.out]; rfl, HTB.out.bel⟩
  obtain ⟨h1, h2, h3, h4⟩ := hc
  have HC := Lib.hid (show 1 ≤ t.ins.length ∧ t.ins.length ≤ 256 ∧ 1 ≤ t.outs.length ∧ t.outs.length ≤ 256 by rw [← HN.out, ← HN'.out]; exact ⟨h1, h2, h3, h4⟩)
  go_wp2_with fail
  go_loopg [3] n (fun g i wr => ∃ (k : Nat), g = n - k ∧ k ≤ n ∧ i = .int .i64 k ∧ wr = w0 ∧ ∀ (j : Nat) (y : PIn), j < k → t.ins[j]? = some y → decide (4 < y.wit.length) = false)
  case atStart => exact ⟨0, rfl, by omega, rfl, rfl, fun j y hj => absurd hj (Nat.not_lt_zero _)⟩
  case round =>
    rename World => wo
    obtain ⟨k, hgk, hk, rfl, rfl, hall⟩ := hrel
    have HGK := Lib.hid hgk
    have HALL := Lib.hid hall
    clear hgk hall
    by_cases hlt : k < n
    · obtain ⟨b, o, x, wv, rfl, hx, hseq, hidx, hid, hwv, d0, d1, d2, d3⟩ := HTB.out.ins.inp hlt
      obtain ⟨wa, wc, rfl, hw1, hw2⟩ := hwv.shape
      rw [maxLen_eq] at hw2
      have HX := Lib.hid hx
      clear hx hwv d0 d1 d2
      by_cases h40 : 4 < x.wit.length
      · have HF := Lib.hid (check_counts (counts_wit (any_at (p := fun x : PIn => decide (4 < x.wit.length)) HX.out (decide_eq_true h40))))
        go_wp2_with fail
        go_ret
        exact ⟨by rw [HR.out, HF.out]; rfl, HTB.out.bel⟩
      · have HNX := Lib.hid (before_step HALL.out HX.out (decide_eq_false h40))
        go_wp2_with fail
        go_roundg (n - (k + 1))
        case measure => have := HGK.out; omega
        case rel => exact ⟨k + 1, rfl, by omega, by go_num, rfl, HNX.out⟩
    · obtain rfl : k = n := by omega
      have HO := Lib.hid (counts_of HC.out (any_no HN.out HALL.out))
      clear HALL HGK hlt hk HC
      have c0 : wo.cell? ⟨w.heap.size, 0, none⟩ = some (.int .u32 t.ver) := cell_at HTB.out.box
      have c3 : wo.cell? ⟨w.heap.size, 3, none⟩ = some (.int .u32 t.lock) := cell_at HTB.out.box
      go_wp2_with fail
      refine (rlong_any _ t wo (HTB.out.tx HV.out)).mono ?_
      rintro e w1 ⟨rfl, hb⟩
      have HT1 := Lib.hid (HTB.out.next hb)
      replace c1 := below_cells hb _ _ c1
      clear hb HTB c0 c2 c3
      cases hlg : longOf t
      rotate_left
      · have HF := Lib.hid (check_long HO.out hlg)
        go_wp2_with fail
        go_ret
        exact ⟨by rw [HR.out, HF.out]; rfl, HT1.out.bel⟩
      have HLG := Lib.hid hlg
      clear hlg
      go_wp2_with fail
      go_loopg [5] k (fun g i wr => ∃ (q : Nat), g = k - q ∧ q ≤ k ∧ i = .int .i64 q ∧ TB w (.slice a k c) (.slice a' n' c') t wr ∧ ∀ (j : Nat) (y : PIn), j < q → t.ins[j]? = some y → formIn k y = true)
      case atStart => exact ⟨0, rfl, by omega, rfl, HT1.out, fun j y hj => absurd hj (Nat.not_lt_zero _)⟩
      case round =>
        clear HT1 c1
        rename World => wp
        obtain ⟨q, hgq, hq, rfl, htb, hall⟩ := hrel
        have HGQ := Lib.hid hgq
        have HALL := Lib.hid hall
        have HTB := Lib.hid htb
        have c1 : wp.cell? ⟨w.heap.size, 1, none⟩ = some (.slice a k c) := cell_at htb.box
        clear hgq hall htb
        by_cases hlt : q < k
        · obtain ⟨b, o, x, wv, rfl, hx, hseq, hidx, hid, hwv, d0, d1, d2, d3⟩ := HTB.out.ins.inp hlt
          have HX := Lib.hid hx
          clear hx hwv d2 d3
          go_wp2_with fail
          refine (rbase_any x.id x.idx hidx hid wp).mono ?_
          rintro e w2 ⟨rfl, hb⟩
          have HT2 := Lib.hid (HTB.out.next hb)
          replace c1 := below_cells hb _ _ c1
          replace d0 := below_cells hb _ _ d0
          clear hb HTB d1
          cases hbs : isBase x.id x.idx
          · by_cases h32 : x.id.size = 32
            · have hz0 : (x.id.size : Int) = 32 := by omega
              have HNX := Lib.hid (all_step HALL.out HX.out (by unfold formIn; rw [decide_eq_true h32, hbs]; rfl))
              go_wp2_with fail
              go_roundg (k - (q + 1))
              case measure => have := HGQ.out; omega
              case rel => exact ⟨q + 1, rfl, by omega, by go_num, HT2.out, HNX.out⟩
            · have hz0 : (x.id.size : Int) ≠ 32 := by omega
              have HF := Lib.hid (check_form HO.out HLG.out (all_no HX.out (show formIn t.ins.length x = false by unfold formIn; rw [decide_eq_false h32, Bool.false_and])))
              go_wp2_with fail
              go_ret
              exact ⟨by rw [HR.out, HF.out]; rfl, HT2.out.bel⟩
          · by_cases h32 : x.id.size = 32
            · have hz0 : (x.id.size : Int) = 32 := by omega
              by_cases hk1 : 1 < k
              · have HF := Lib.hid (check_form HO.out HLG.out (all_no HX.out (show formIn t.ins.length x = false by unfold formIn; rw [decide_eq_true h32, hbs, ← HN.out, decide_eq_true hk1]; rfl)))
                go_wp2_with fail
                go_ret
                exact ⟨by rw [HR.out, HF.out]; rfl, HT2.out.bel⟩
              · have HNX := Lib.hid (all_step HALL.out HX.out (by unfold formIn; rw [decide_eq_true h32, hbs, decide_eq_false hk1]; rfl))
                go_wp2_with fail
                go_roundg (k - (q + 1))
                case measure => have := HGQ.out; omega
                case rel => exact ⟨q + 1, rfl, by omega, by go_num, HT2.out, HNX.out⟩
            · have hz0 : (x.id.size : Int) ≠ 32 := by omega
              have HF := Lib.hid (check_form HO.out HLG.out (all_no HX.out (show formIn t.ins.length x = false by unfold formIn; rw [decide_eq_false h32, Bool.false_and])))
              go_wp2_with fail
              go_ret
              exact ⟨by rw [HR.out, HF.out]; rfl, HT2.out.bel⟩
        · obtain rfl : q = k := by omega
          have HFO := Lib.hid (show formedOf t = true by unfold formedOf; rw [← HN.out]; exact all_yes HN.out HALL.out)
          clear HALL HGQ hlt hq
          obtain ⟨ps, hps⟩ : ∃ ps, ps = ptsOf t := ⟨_, rfl⟩
          have hpsl : ∀ (j : Nat) (z : PIn), t.ins[j]? = some z → ps[j]? = some (z.id, z.idx) := fun j z hz => by rw [hps]; unfold ptsOf; rw [List.getElem?_map, hz]; rfl
          have HPL := Lib.hid hpsl
          have HPS := Lib.hid hps
          clear hpsl hps
          go_wp2_with fail
          go_loopg [7] q (fun g i wr => ∃ (k : Nat), g = q - k ∧ k ≤ q ∧ i = .int .i64 k ∧ TB w (.slice a q c) (.slice a' n' c') t wr ∧ (ps.take k).Nodup)
          case atStart => exact ⟨0, rfl, by omega, rfl, HTB.out, List.nodup_nil⟩
          case round =>
            clear HTB c1
            rename World => wq
            obtain ⟨k, hgk, hk, rfl, htb, hnd⟩ := hrel
            have HGK := Lib.hid hgk
            have HND := Lib.hid hnd
            have HTB := Lib.hid htb
            have c1 : wq.cell? ⟨w.heap.size, 1, none⟩ = some (.slice a q c) := cell_at htb.box
            clear hgk hnd htb
            by_cases hlt : k < q
            · obtain ⟨b, o, x, wv, rfl, hx, -, hidx, hid, hwv, -, -, -, -⟩ := HTB.out.ins.inp hlt
              have HX := Lib.hid hx
              clear hx hwv
              go_wp2_with fail
              go_loopg [8] k (fun g i wr => ∃ (j : Nat), g = k - j ∧ j ≤ k ∧ i = .int .i64 j ∧ TB w (.slice (some ⟨b, o, none⟩) q c) (.slice a' n' c') t wr ∧ ∀ (l : Nat) (z : Pt), l < j → ps[l]? = some z → z ≠ (x.id, x.idx))
              case atStart => exact ⟨0, rfl, by omega, rfl, HTB.out, fun l z hl => absurd hl (Nat.not_lt_zero _)⟩
              case round =>
                clear HTB c1
                rename World => wr
                obtain ⟨j, hgj, hj, rfl, htb, hall⟩ := hrel
                have HGJ := Lib.hid hgj
                have HALL := Lib.hid hall
                have HTB := Lib.hid htb
                have c1 : wr.cell? ⟨w.heap.size, 1, none⟩ = some (.slice (some ⟨b, o, none⟩) q c) := cell_at htb.box
                clear hgj hall htb
                by_cases hjk : j < k
                · obtain ⟨b2, o2, x2, wv2, hbo, hx2, -, -, -, -, d0, d1, -, -⟩ := HTB.out.ins.inp hlt
                  obtain ⟨rfl, rfl⟩ : b = b2 ∧ o = o2 := by simpa using hbo
                  obtain rfl : x = x2 := by have h := HX.out; rw [hx2] at h; exact (Option.some.inj h).symm
                  obtain ⟨b2, o2, y, wv2, hbo, hy, -, -, -, -, e0, e1, -, -⟩ := HTB.out.ins.inp (show j < q by omega)
                  obtain ⟨rfl, rfl⟩ : b = b2 ∧ o = o2 := by simpa using hbo
                  have HY := Lib.hid hy
                  clear hbo hx2 hy
                  have hkin : (0 : Int) ≤ (k : Int) := by omega
                  have hkiq : (k : Int) < (q : Int) := by omega
                  have hjin : (0 : Int) ≤ (j : Int) := by omega
                  have hjiq : (j : Int) < (q : Int) := by omega
                  by_cases hid1 : x.id = y.id
                  · rw [← hid1] at e0
                    by_cases hix : x.idx = y.idx
                    · rw [← hix] at e1
                      have HF := Lib.hid (check_dup HO.out HLG.out HFO.out (dup_yes (by
                        rw [← HPS.out]
                        refine nodup_not (HPL.out _ _ HX.out) ?_
                        have h1 := HPL.out _ _ HY.out
                        rw [← hid1, ← hix] at h1
                        exact List.mem_of_getElem? (i := j) (by rw [List.getElem?_take, if_pos hjk]; exact h1))))
                      go_wp2_with fail
                      go_quiet (fail)
                      have HTZ := Lib.hid (HTB.out.next (w' := wr.drewN nq) ⟨rfl, rfl, rfl, Nat.le_refl _, fun _ _ => rfl⟩)
                      go_wp2_with fail
                      go_ret
                      exact ⟨by rw [HR.out, HF.out]; rfl, HTZ.out.bel⟩
                    · have hne : (x.idx : Int) ≠ y.idx := by omega
                      have HNX := Lib.hid (ne_step HALL.out (HPL.out _ _ HY.out) (fun h => hix (congrArg Prod.snd h).symm))
                      go_wp2_with fail
                      go_quiet (fail)
                      have HTZ := Lib.hid (HTB.out.next (w' := wr.drewN nq) ⟨rfl, rfl, rfl, Nat.le_refl _, fun _ _ => rfl⟩)
                      go_wp2_with fail
                      go_roundg (k - (j + 1))
                      case measure => have := HGJ.out; omega
                      case rel => exact ⟨j + 1, rfl, by omega, by go_num, HTZ.out, HNX.out⟩
                  · have hbe : (x.id.toList == y.id.toList) = false := by
                      rw [ByteArray.toList_eq, ByteArray.toList_eq, beq_eq_false_iff_ne]
                      intro h
                      exact hid1 (by cases hx : x.id; cases hy : y.id; rw [hx, hy] at h; simp at h; rw [h])
                    have HNX := Lib.hid (ne_step HALL.out (HPL.out _ _ HY.out) (fun h => hid1 (congrArg Prod.fst h).symm))
                    go_wp2_with fail
                    go_quiet (fail)
                    have HTZ := Lib.hid (HTB.out.next (w' := wr.drewN nq) ⟨rfl, rfl, rfl, Nat.le_refl _, fun _ _ => rfl⟩)
                    go_wp2_with fail
                    go_roundg (k - (j + 1))
                    case measure => have := HGJ.out; omega
                    case rel => exact ⟨j + 1, rfl, by omega, by go_num, HTZ.out, HNX.out⟩
                · obtain rfl : j = k := by omega
                  have HNX := Lib.hid (nodup_step HND.out (HPL.out _ _ HX.out) (ne_mem HALL.out))
                  go_wp2_with fail
                  go_roundg (q - (j + 1))
                  case measure => have := HGK.out; omega
                  case rel => exact ⟨j + 1, rfl, by omega, by go_num, HTB.out, HNX.out⟩
            · obtain rfl : k = q := by omega
              have hpl : ps.take k = ps := List.take_of_length_le (by rw [HPS.out, HN.out]; unfold ptsOf; rw [List.length_map]; exact Nat.le_refl _)
              have HD := Lib.hid (show dup (ptsOf t) = false by rw [← HPS.out]; exact dup_no (hpl ▸ HND.out))
              have HF := Lib.hid (check_sum HO.out HLG.out HFO.out HD.out)
              have c0 : wq.cell? ⟨w.heap.size, 0, none⟩ = some (.int .u32 t.ver) := cell_at HTB.out.box
              have c2 : wq.cell? ⟨w.heap.size, 2, none⟩ = some (.slice a' n' c') := cell_at HTB.out.box
              have c3 : wq.cell? ⟨w.heap.size, 3, none⟩ = some (.int .u32 t.lock) := cell_at HTB.out.box
              clear hpl
              go_wp2_with fail
              refine (rtotal_any _ t wq (HTB.out.tx HV.out) HL.out).mono ?_
              rintro e w5 ⟨rfl, hb⟩
              have HT5 := Lib.hid (HTB.out.next hb)
              have HSM := Lib.hid (show sumOf t = sumA 0 (t.outs.map (·.val)) from rfl)
              rw [← HSM.out]
              generalize sumOf t = sm at *
              clear hb
              go_wp2_with fail
              go_ret
              exact ⟨by rw [HR.out, HF.out]; rfl, HT5.out.bel⟩
end Go.Proofs.YtelindgnkpfkiaaGreatDoor
end

section
/-
  cmp.Compare of whole numbers, cmp.Or of two. Conditions: none beyond each theorem's own.
-/
namespace Go.Proofs.YtelindgnkpfkiaaGreatDoor
open Go.RowKit Go.BigFrame
set_option linter.unusedVariables false
set_option linter.unusedSimpArgs false

def cmpN (a b : Nat) : Int := if a < b then -1 else if b < a then 1 else 0
def orI (x y : Int) : Int := if x = 0 then y else x
end Go.Proofs.YtelindgnkpfkiaaGreatDoor
end

section
/-
  tx.Base, tx.Less. Conditions: none beyond each theorem's own.
-/
namespace Go.Proofs.YtelindgnkpfkiaaGreatDoor
open Go.RowKit Go.BigFrame
set_option linter.unusedVariables false
set_option linter.unusedSimpArgs false

def baseOf (t : PTx) : Bool := match t.ins with
  | [x] => isBase x.id x.idx
  | _ => false
theorem baseOf_one {t : PTx} {x : PIn} (h1 : t.ins.length = 1) (hx : t.ins[0]? = some x) : baseOf t = isBase x.id x.idx := by
  obtain ⟨ver, ins, outs, lock⟩ := t
  match ins, h1, hx with
  | [y], _, hx => obtain rfl := Option.some.inj hx; rfl
theorem baseOf_not {t : PTx} (h1 : t.ins.length ≠ 1) : baseOf t = false := by
  obtain ⟨ver, ins, outs, lock⟩ := t
  match ins, h1 with
  | [], _ => rfl
  | [y], h => exact absurd rfl h
  | _ :: _ :: _, _ => rfl

set_option maxRecDepth 100000 in
set_option maxHeartbeats 2000000 in
theorem base_tx (v : Value) (t : PTx) (w : World) (hv : TxAt w v t) : Calls Tryz.prog 25 #[v] w (BIs (baseOf t) w) := by
  obtain ⟨va, vo, rfl, hia, hob, -, -⟩ := hv
  obtain ⟨a, c, rfl, hl1, hl2⟩ := hia.shape
  rw [maxLen_eq] at hl2
  have htb := TB.start hia hob
  have HTB := Lib.hid htb
  clear htb hia hob
  obtain ⟨r, hr⟩ : ∃ r, r = baseOf t := ⟨_, rfl⟩
  rw [← hr]
  have HR := Lib.hid hr
  clear hr
  obtain ⟨n, hn⟩ : ∃ n, n = t.ins.length := ⟨_, rfl⟩
  rw [← hn] at hl1 HTB ⊢
  have HN := Lib.hid hn
  clear hn
  go_enter Tryz.func25, Tryz.ntmps25
  go_upto_region 1 with fail
  generalize w.alloc (.cells #[.int .u32 t.ver, .slice a n c, vo, .int .u32 t.lock] 35) = w0 at *
  have c1 : w0.cell? ⟨w.heap.size, 1, none⟩ = some (.slice a n c) := cell_at HTB.out.box
  obtain ⟨C, hC⟩ : ∃ C : World → Prop, C = fun w' => Below w0.heap.size w0 w' := ⟨_, rfl⟩
  have k2 : ∀ y : Kin C, y.w.cell? ⟨w.heap.size, 1, none⟩ = some (.slice a n c) := by
    intro ⟨y, h⟩; subst hC; exact below_cells h _ _ c1
  by_cases h1 : n = 1
  · subst h1
    obtain ⟨b, o, x, wv, rfl, hx, hseq, hidx, hid, hwv, d0, d1, d2, d3⟩ := HTB.out.ins.inp (show 0 < 1 by omega)
    have k0 : ∀ y : Kin C, y.w.cell? ⟨b, o, none⟩ = some (.string x.id) := by
      intro ⟨y, h⟩; subst hC; exact below_cells h _ _ d0
    have k1 : ∀ y : Kin C, y.w.cell? ⟨b, o + 1, none⟩ = some (.int .u32 x.idx) := by
      intro ⟨y, h⟩; subst hC; exact below_cells h _ _ d1
    have hqb : ∀ y : Kin C, Calls Tryz.prog 55 #[] y.w fun e w' => e = .returned (.agg #[.string zeros32, .int .u32 4294967295]) ∧ C w' := by
      intro y
      refine (base_any y.w).mono ?_
      rintro e w' ⟨rfl, hb⟩
      obtain ⟨y, h⟩ := y
      subst hC
      exact ⟨rfl, h.trans (hb.mono h.size)⟩
    have HQB := Lib.hid hqb
    have HC := Lib.hid hC
    have HX := Lib.hid (baseOf_one HN.out.symm hx)
    have hgp := guardPt
    have heq : ∀ w : World, (Op.equalIn 10000 46 (.agg #[.string x.id, .int .u32 x.idx]) (.agg #[.string zeros32, .int .u32 4294967295])).run Tryz.prog w = .ok (isBase x.id x.idx) w := fun w => eqIn_base x.id x.idx w
    generalize isBase x.id x.idx = bb at *
    clear hC hqb hx hwv d0 d1 d2 d3
    refine wp_region_kin C (by kernel_rfl) (by kernel_rfl) (by rw [HC.out]; exact ⟨rfl, rfl, rfl, Nat.le_refl _, fun _ _ => rfl⟩) ?_
    intro hne
    repeat (first | (go_big_quiet_step (first | (rename_i y; go_at_call 55; exact Calls.kin (HQB.out y) (fun w' h => h)))) | (quiet_step (first | (rename_i y; go_at_call 55; exact Calls.kin (HQB.out y) (fun w' h => h)))))
    refine wpQuiet_nil ?_
    intro _ hw'
    obtain ⟨kx, hw''⟩ := hw'
    subst hw''
    obtain ⟨wy, hxc⟩ := kx
    rw [HC.out] at hxc
    have HTY := Lib.hid (HTB.out.next hxc)
    clear hxc k0 k1 k2
    go_wp2_with fail
    go_ret
    exact ⟨ret_bool (by rw [HR.out, HX.out]), HTY.out.bel⟩
  · have HF := Lib.hid (baseOf_not (t := t) (by rw [← HN.out]; exact h1))
    have h1i : (n : Int) ≠ 1 := by omega
    have HC := Lib.hid hC
    clear hC
    refine wp_region_kin C (by kernel_rfl) (by kernel_rfl) (by rw [HC.out]; exact ⟨rfl, rfl, rfl, Nat.le_refl _, fun _ _ => rfl⟩) ?_
    intro hne
    repeat (first | (go_big_quiet_step (fail)) | (quiet_step (fail)))
    refine wpQuiet_nil ?_
    intro _ hw'
    obtain ⟨kx, hw''⟩ := hw'
    subst hw''
    obtain ⟨wy, hxc⟩ := kx
    rw [HC.out] at hxc
    have HTY := Lib.hid (HTB.out.next hxc)
    clear hxc k2
    go_wp2_with fail
    go_ret
    exact ⟨ret_bool (by rw [HR.out, HF.out]), HTY.out.bel⟩

def lessPt (a b : Pt) : Bool := decide (orI (Lib.compareBytes a.1.data.toList b.1.data.toList) (cmpN a.2 b.2) < 0)
end Go.Proofs.YtelindgnkpfkiaaGreatDoor
end

section
/-
  Two or three blocks made one behind the other. Conditions: none.
-/
namespace Go.Proofs.YtelindgnkpfkiaaGreatDoor
open Go.RowKit Go.BigFrame
theorem stay {w w1 : World} {b : Nat} {ob : Obj} (h : w.heap[b]? = some ob) (hb : Below w.heap.size w w1) : w1.heap[b]? = some ob := (hb.block _ (Array.getElem?_eq_some_iff.1 h).1).trans h
theorem stay_set {w : World} {b B j : Nat} {ob : Obj} {u : Value} (h : w.heap[b]? = some ob) (hb : b ≠ B) : (w.setCell ⟨B, j, none⟩ u).heap[b]? = some ob := (Below.heap_setCell _ _ _ _ hb).trans h
theorem lt_of {w : World} {b : Nat} {ob : Obj} (h : w.heap[b]? = some ob) : b < w.heap.size := (Array.getElem?_eq_some_iff.1 h).1
theorem new2 (w : World) (X : Nat) (hX : X = w.heap.size) (o1 o2 : Obj) : ((w.alloc o1).alloc o2).heap[X]? = some o1 ∧ ((w.alloc o1).alloc o2).heap[X + 1]? = some o2 ∧ Below w.heap.size w ((w.alloc o1).alloc o2) := by
  subst hX
  have h1 := heap_alloc_new w o1
  have h2 := heap_alloc_new (w.alloc o1) o2
  have hs : (w.alloc o1).heap.size = w.heap.size + 1 := by simp
  have hb : Below (w.alloc o1).heap.size (w.alloc o1) ((w.alloc o1).alloc o2) := (Below.refl _ _).alloc (Nat.le_refl _) o2
  rw [hs] at h2
  exact ⟨(hb.block _ (Array.getElem?_eq_some_iff.1 h1).1).trans h1, h2, ((Below.refl _ _).alloc (Nat.le_refl _) o1).trans (hb.mono (by omega))⟩
theorem new3 (w : World) (X : Nat) (hX : X = w.heap.size) (o1 o2 o3 : Obj) : (((w.alloc o1).alloc o2).alloc o3).heap[X]? = some o1 ∧ (((w.alloc o1).alloc o2).alloc o3).heap[X + 1]? = some o2 ∧ (((w.alloc o1).alloc o2).alloc o3).heap[X + 1 + 1]? = some o3 ∧ Below w.heap.size w (((w.alloc o1).alloc o2).alloc o3) := by
  obtain ⟨h1, h2, h3⟩ := new2 w X hX o1 o2
  subst hX
  have h4 := heap_alloc_new ((w.alloc o1).alloc o2) o3
  have hs : ((w.alloc o1).alloc o2).heap.size = w.heap.size + 1 + 1 := by simp
  have hb : Below ((w.alloc o1).alloc o2).heap.size ((w.alloc o1).alloc o2) (((w.alloc o1).alloc o2).alloc o3) := (Below.refl _ _).alloc (Nat.le_refl _) o3
  rw [hs] at h4
  exact ⟨(hb.block _ (Array.getElem?_eq_some_iff.1 h1).1).trans h1, (hb.block _ (Array.getElem?_eq_some_iff.1 h2).1).trans h2, h4, h3.trans (hb.mono (by omega))⟩
end Go.Proofs.YtelindgnkpfkiaaGreatDoor
end

section
/-
  Reserves: entries as plain data, which is better, which one is chosen. Conditions: none beyond each theorem's own.
-/
namespace Go.Proofs.YtelindgnkpfkiaaGreatDoor
open Go.RowKit Go.BigFrame
set_option linter.unusedVariables false
set_option linter.unusedSimpArgs false

structure PEn where
  id : ByteArray
  idx : Nat
  val : Int
  script : ByteArray
  ht : Int
structure PEn.Ok (x : PEn) : Prop where
  id : x.id.size ≤ maxLen
  idx : x.idx < 4294967296
  val : -9223372036854775808 ≤ x.val ∧ x.val ≤ 9223372036854775807
  script : x.script.size ≤ maxLen
  ht : -9223372036854775808 ≤ x.ht ∧ x.ht ≤ 9223372036854775807
def PEn.pt (x : PEn) : Pt := (x.id, x.idx)
def rpEn : Rp PEn := ⟨5, fun _ cs x => cs = [.string x.id, .int .u32 x.idx, .int .i64 x.val, .string x.script, .int .i64 x.ht] ∧ x.Ok, fun _ h => h⟩
theorem SlAt.en {w : World} {a : Option Addr} {n c i : Nat} {xs : List PEn} (h : SlAt rpEn w (.slice a n c) xs) (hi : i < n) : ∃ (b o : Nat) (x : PEn), a = some ⟨b, o, none⟩ ∧ xs[i]? = some x ∧ x.Ok ∧
    w.cell? ⟨b, o + i * 5, none⟩ = some (.string x.id) ∧ w.cell? ⟨b, o + i * 5 + 1, none⟩ = some (.int .u32 x.idx) ∧ w.cell? ⟨b, o + i * 5 + 2, none⟩ = some (.int .i64 x.val) ∧ w.cell? ⟨b, o + i * 5 + 3, none⟩ = some (.string x.script) ∧ w.cell? ⟨b, o + i * 5 + 4, none⟩ = some (.int .i64 x.ht) := by
  obtain ⟨b, o, x, cs, h1, h2, h3, h4, h5, h6⟩ := h.at hi
  subst h5
  exact ⟨b, o, x, h1, h2, h6, h4 0 _ rfl, h4 1 _ rfl, h4 2 _ rfl, h4 3 _ rfl, h4 4 _ rfl⟩
/-- Is a coin better than another: of a lesser value, or of the same and the first? -/
def betterB (a b : PEn) : Bool := if a.val = b.val then lessPt a.pt b.pt else decide (a.val < b.val)
/-- The coin that is chosen. -/
def fitsB (script : ByteArray) (need : Int) (taken : Pt → Bool) (x : PEn) : Bool := decide (x.script = script) && (decide (need ≤ x.val) && !taken x.pt)
def upB (b : Option PEn) (x : PEn) : Option PEn := match b with | none => some x | some y => if betterB x y then some x else some y
def pickB (script : ByteArray) (need : Int) (taken : Pt → Bool) (b : Option PEn) (x : PEn) : Option PEn :=
  if fitsB script need taken x then upB b x else b
def chooseL (script : ByteArray) (need : Int) (taken : Pt → Bool) (l : List PEn) : Option PEn := l.foldl (pickB script need taken) none

/-! ### what is chosen -/
theorem pick_ge {script : ByteArray} {need : Int} {taken : Pt → Bool} : ∀ (l : List PEn) (b : Option PEn) (y : PEn), l.foldl (pickB script need taken) b = some y →
    (b = some y ∨ (y ∈ l ∧ fitsB script need taken y = true)) ∧ (∀ x ∈ l, fitsB script need taken x = true → y.val ≤ x.val) ∧ (∀ z, b = some z → y.val ≤ z.val)
  | [], b, y, h => ⟨.inl h, fun x hx => by simp at hx, fun z hz => by rw [show b = some y from h] at hz; cases hz; exact Int.le_refl _⟩
  | x :: r, b, y, h => by
    rw [List.foldl_cons] at h
    obtain ⟨h1, h2, h3⟩ := pick_ge r (pickB script need taken b x) y h
    by_cases hf : fitsB script need taken x = true
    · have hp : pickB script need taken b x = upB b x := by unfold pickB; rw [if_pos hf]
      rw [hp] at h1 h3
      cases b with
      | none =>
        dsimp only [upB] at h1 h3
        refine ⟨.inr ?_, fun u hu hfu => ?_, fun z hz => by cases hz⟩
        · rcases h1 with h1 | ⟨h1, h1'⟩
          · cases h1; exact ⟨List.mem_cons_self .., hf⟩
          · exact ⟨List.mem_cons_of_mem _ h1, h1'⟩
        · rcases List.mem_cons.1 hu with rfl | hu
          · exact h3 _ rfl
          · exact h2 u hu hfu
      | some z =>
        dsimp only [upB] at h1 h3
        have hle : ∀ m, (if betterB x z = true then some x else some z) = some m → m.val ≤ x.val ∧ m.val ≤ z.val := by
          intro m hm
          by_cases hb : betterB x z = true
          · rw [if_pos hb] at hm
            cases hm
            refine ⟨Int.le_refl _, ?_⟩
            unfold betterB at hb
            by_cases he : x.val = z.val
            · omega
            · rw [if_neg he] at hb
              have := of_decide_eq_true hb
              omega
          · rw [if_neg hb] at hm
            cases hm
            refine ⟨?_, Int.le_refl _⟩
            unfold betterB at hb
            by_cases he : x.val = z.val
            · omega
            · rw [if_neg he] at hb
              have : ¬ x.val < z.val := fun h => hb (decide_eq_true h)
              omega
        have hm : ∃ m, (if betterB x z = true then some x else some z) = some m := by split <;> exact ⟨_, rfl⟩
        obtain ⟨m, hm⟩ := hm
        have hm2 := hle m hm
        have hy := h3 m hm
        refine ⟨?_, fun u hu hfu => ?_, fun z' hz' => ?_⟩
        · rcases h1 with h1 | ⟨h1, h1'⟩
          · by_cases hbt : betterB x z = true
            · rw [if_pos hbt] at h1; cases h1; exact .inr ⟨List.mem_cons_self .., hf⟩
            · rw [if_neg hbt] at h1; exact .inl h1
          · exact .inr ⟨List.mem_cons_of_mem _ h1, h1'⟩
        · rcases List.mem_cons.1 hu with rfl | hu
          · omega
          · exact h2 u hu hfu
        · cases hz'; omega
    · have hp : pickB script need taken b x = b := by unfold pickB; rw [if_neg hf]
      rw [hp] at h1 h3
      refine ⟨?_, fun u hu hfu => ?_, h3⟩
      · rcases h1 with h1 | ⟨h1, h1'⟩
        · exact .inl h1
        · exact .inr ⟨List.mem_cons_of_mem _ h1, h1'⟩
      · rcases List.mem_cons.1 hu with rfl | hu
        · exact absurd hfu hf
        · exact h2 u hu hfu
theorem pick_none {script : ByteArray} {need : Int} {taken : Pt → Bool} : ∀ (l : List PEn) (b : Option PEn), l.foldl (pickB script need taken) b = none → b = none ∧ ∀ x ∈ l, fitsB script need taken x = false
  | [], b, h => ⟨h, fun x hx => by simp at hx⟩
  | x :: r, b, h => by
    rw [List.foldl_cons] at h
    obtain ⟨h1, h2⟩ := pick_none r _ h
    unfold pickB at h1
    by_cases hf : fitsB script need taken x = true
    · rw [if_pos hf] at h1
      cases b with
      | none => cases h1
      | some y => dsimp only [upB] at h1; split at h1 <;> cases h1
    · rw [if_neg hf] at h1
      refine ⟨h1, fun u hu => ?_⟩
      rcases List.mem_cons.1 hu with rfl | hu
      · simpa using hf
      · exact h2 u hu
/-- ReserveBack's plain law: with a greater need none of a lesser value is chosen; where none is, none is by a greater need. -/
theorem choose_more {script : ByteArray} {need more : Int} {taken : Pt → Bool} {l : List PEn} (h0 : 0 ≤ more) : (chooseL script need taken l = none → chooseL script (need + more) taken l = none) ∧
    ∀ a c, chooseL script need taken l = some a → chooseL script (need + more) taken l = some c → a.val ≤ c.val := by
  have fits : ∀ x, fitsB script (need + more) taken x = true → fitsB script need taken x = true := by
    intro x h
    unfold fitsB at *
    simp only [Bool.and_eq_true, decide_eq_true_eq] at *
    exact ⟨h.1, by omega, h.2.2⟩
  refine ⟨fun h => ?_, fun a c ha hc => ?_⟩
  · have h1 := (pick_none l none h).2
    cases hc : chooseL script (need + more) taken l with
    | none => rfl
    | some c =>
      obtain ⟨h2, -, -⟩ := pick_ge l none c hc
      rcases h2 with h2 | ⟨h2, h3⟩
      · cases h2
      · have := h1 c h2
        rw [fits c h3] at this
        cases this
  · obtain ⟨-, h2, -⟩ := pick_ge l none a ha
    obtain ⟨h3, -, -⟩ := pick_ge l none c hc
    rcases h3 with h3 | ⟨h3, h4⟩
    · cases h3
    · exact h2 c h3 (fits c h4)
end Go.Proofs.YtelindgnkpfkiaaGreatDoor
end

section
/-
  A region that draws its order, by what holds behind each set of its operations. Conditions: those named in wp_region_inv.
-/
namespace Go.Proofs.YtelindgnkpfkiaaGreatDoor
open Go.RowKit Go.BigFrame
set_option linter.unusedVariables false

section
variable {P : Program}
theorem getD_set_iff {l : Array Bool} {i j : Nat} (hi : i < l.size) : (l.setIfInBounds i true).getD j false = true ↔ (j = i ∨ l.getD j false = true) := by
  by_cases h : j = i
  · subst h
    simp [hi]
  · rw [Array.getD_eq_getD_getElem?, Array.getElem?_setIfInBounds_ne (Ne.symm h), ← Array.getD_eq_getD_getElem?]
    simp [h]
theorem getD_flip {l : Array Bool} {i : Nat} (hi : i < l.size) (b c : Bool) : l.getD i b = l.getD i c := by simp [Array.getD, hi]
theorem count_set_true {l : Array Bool} {i : Nat} (hi : i < l.size) (h : l.getD i true = false) : (l.setIfInBounds i true).toList.count false + 1 = l.toList.count false := by
  have hl : l.toList[i]'(by simpa using hi) = false := by
    have := h
    simpa [Array.getD, hi] using this
  have hpos : 0 < l.toList.count false := List.count_pos_iff.2 (by rw [← hl]; exact List.getElem_mem _)
  rw [Array.toList_setIfInBounds, List.count_set (by simpa using hi), hl]
  have e1 : (false == false) = true := rfl
  rw [if_pos e1, if_neg (by simp)]
  omega

/-- **A REGION THAT DRAWS ITS ORDER, BY AN INVARIANT.** I L a w: what holds where just the operations of L have been run. -/
theorem wp_region_inv (I : (Nat → Prop) → Act → World → Prop) {id : Nat} {l : List Oper} {Q : Exit → Act → World → Prop} {a : Act} {w : World} (hm : P.follows .mixedOrders = true) (hb : backB .any l.toArray = true)
    (hg : (l.all fun o => o.guard.isNone) = true) (h0 : I (fun _ => False) a w.drew)
    (hstep : ∀ (L : Nat → Prop) (i : Nat) (o : Oper) (a : Act) (w : World), l[i]? = some o → ¬ L i → (∀ e ∈ o.after, Region.binds .any e = true → L e.on) → I L a w →
      o.wp P a w (fun a' w' => I (fun j => j = i ∨ L j) a' w') (fun _ _ _ => False))
    (hend : ∀ (L : Nat → Prop) (a : Act) (w : World), (∀ j, j < l.length → L j) → I L a w → Q .normal a w) :
    (Code.region id l.toArray true).wp P Q a w := by
  have main : ∀ (fuel : Nat) (listed : Array Bool) (a : Act) (w : World), listed.size = l.toArray.size → listed.toList.count false ≤ fuel → I (fun j => listed.getD j false = true) a w →
      wpAny P .any l.toArray Q fuel listed a w := by
    intro fuel
    induction fuel with
    | zero =>
      intro listed a w hsz hc hI
      have hall : ∀ j, j < listed.size → listed.getD j false = true := fun j hj => by
        cases hx : listed.getD j false with
        | true => rfl
        | false =>
          exfalso
          have h1 := count_set_true hj (by rw [getD_flip hj true false]; exact hx)
          omega
      refine ⟨?_, hend _ a w (fun j hj => hall j (by rw [hsz]; simpa using hj)) hI⟩
      rw [List.eq_nil_iff_forall_not_mem]
      intro j hj
      obtain ⟨h1, x, hx, _⟩ := mem_ready.1 hj
      have hjl : j < listed.size := by rw [hsz]; exact (Array.getElem?_eq_some_iff.1 hx).1
      rw [getD_flip hjl true false, hall j hjl] at h1
      cases h1
    | succ fuel ih =>
      intro listed a w hsz hc hI
      refine ⟨fun he => hend _ a w (fun j hj => ?_) hI, fun i hi => ?_⟩
      · have hjl : j < listed.size := by rw [hsz]; simpa using hj
        cases hx : listed.getD j false with
        | true => rfl
        | false => exact absurd he (some_ready hb listed hsz j (by rw [← hsz]; exact hjl) (by rw [getD_flip hjl true false]; exact hx))
      · obtain ⟨h1, x, hx, h2⟩ := mem_ready.1 hi
        have hil : i < listed.size := by rw [hsz]; exact (Array.getElem?_eq_some_iff.1 hx).1
        have hxl : l[i]? = some x := by simpa using hx
        have hgx : x.guard = none := by
          have := List.all_eq_true.1 hg x (List.mem_of_getElem? hxl)
          simpa using this
        have hs := hstep (fun j => listed.getD j false = true) i x a w hxl (by rw [getD_flip hil false true, h1]; simp) h2 hI
        unfold wpOp
        rw [hx]
        simp only [Region.wanted, hgx, if_true]
        refine .inl (wp_weaken (fun a' w' hK => ?_) (fun _ _ _ h => h.elim) (fun ⟨_, _, h⟩ => h.elim) hs)
        refine ih _ a' w' (by simpa using hsz) (by have := count_set_true hil h1; omega) ?_
        have he : (fun j => (listed.setIfInBounds i true).getD j false = true) = fun j => j = i ∨ listed.getD j false = true := by
          funext j
          exact propext (getD_set_iff hil)
        rw [he]
        exact hK
  refine wp_region_any hm (main _ _ a _ (by simp) (by simp) ?_)
  have he : (fun j => (Array.replicate l.toArray.size false).getD j false = true) = fun _ => False := by
    funext j
    apply propext
    refine ⟨fun h => ?_, fun h => h.elim⟩
    have h1 : (Array.replicate l.toArray.size false).getD j false = false := by simp [Array.getD]
    rw [h1] at h
    cases h
  rw [he]
  exact h0
/-- The same, told from the frame at the region's start. -/
theorem wp_region_inv_at (J : Act → (Nat → Prop) → Act → World → Prop) {id : Nat} {l : List Oper} {Q : Exit → Act → World → Prop} {a : Act} {w : World} (hm : P.follows .mixedOrders = true) (hb : backB .any l.toArray = true)
    (hg : (l.all fun o => o.guard.isNone) = true) (h0 : J a (fun _ => False) a w.drew)
    (hstep : ∀ (L : Nat → Prop) (i : Nat) (o : Oper) (a' : Act) (w' : World), l[i]? = some o → ¬ L i → (∀ e ∈ o.after, Region.binds .any e = true → L e.on) → J a L a' w' →
      o.wp P a' w' (fun a'' w'' => J a (fun j => j = i ∨ L j) a'' w'') (fun _ _ _ => False))
    (hend : ∀ (L : Nat → Prop) (a' : Act) (w' : World), (∀ j, j < l.length → L j) → J a L a' w' → Q .normal a' w') :
    (Code.region id l.toArray true).wp P Q a w := wp_region_inv (J a) hm hb hg h0 hstep hend
end
end Go.Proofs.YtelindgnkpfkiaaGreatDoor
end

section
/-
  A region that draws its order: operations that make memory of their own, in any order, and behind them a tail of operations of which each waits for all ahead of it. Conditions: those named in wp_region_made.
-/
namespace Go.Proofs.YtelindgnkpfkiaaGreatDoor
open Go.RowKit Go.BigFrame
set_option linter.unusedVariables false

theorem opv_run {P : Program} {o : Oper} {a : Act} {w w' : World} {v : Value} {K : Act → World → Prop} {Q : Exit → Act → World → Prop} (hrun : (execOp a.eval o).run P w = .ok (.value v) w') (hK : K (a.put o.dst v) w') : o.wp P a w K Q := by
  unfold Oper.wp
  rw [hrun]
  exact hK
theorem op_skip {P : Program} {o : Oper} {a : Act} {w w' : World} {K : Act → World → Prop} {Q : Exit → Act → World → Prop} (hrun : (execOp a.eval o).run P w = .ok .skip w') (hK : K (a.put o.dst undef) w') : o.wp P a w K Q := by
  unfold Oper.wp
  rw [hrun]
  exact hK
theorem op_call {P : Program} {o : Oper} {a : Act} {w : World} {f : FuncId} {args : Array Value} {R : Ending → World → Prop} {K : Act → World → Prop} {Q : Exit → Act → World → Prop} (hrun : (execOp a.eval o).run P w = .ok (.enter f args) w)
    (hc : Calls P f args w R) (hK : ∀ e w', R e w' → ∃ v, e = .returned v ∧ K (a.put o.dst v) w') : o.wp P a w K Q := by
  unfold Oper.wp
  rw [hrun]
  refine hc.mono fun e w' hR => ?_
  obtain ⟨v, rfl, hk⟩ := hK e w' hR
  exact hk

/-- The frame behind the operations' results. -/
def putAll (a : Act) : List Oper → List Value → Act
  | o :: l, x :: xs => putAll (a.put o.dst x) l xs
  | _, _ => a
def depsOf (o : Oper) : List Nat := (o.after.toList.filter (Region.binds .any)).map (·.on)
def deps (l : List Oper) (i : Nat) : List Nat := match l[i]? with | some o => depsOf o | none => []
def noneOf (d : Option Tmp) (l : List Oper) : Bool := match d with | none => true | some d => l.all fun o => match o.dst with | none => true | some e => !(d == e)
def dstB : List Oper → Bool
  | [] => true
  | o :: l => noneOf o.dst l && dstB l

theorem put_comm (a : Act) {d e : Option Tmp} (h : ∀ x y, d = some x → e = some y → x ≠ y) (u v : Value) : (a.put d u).put e v = (a.put e v).put d u := by
  cases d with
  | none => rfl
  | some d =>
    cases e with
    | none => rfl
    | some e =>
      have hne := h d e rfl rfl
      simp only [Act.put]
      congr 1
      exact Array.setIfInBounds_comm _ _ hne
theorem put_own (a : Act) (d : Option Tmp) : a.put d (match d with | some d => a.tmps.getD d undef | none => undef) = a := by
  cases d with
  | none => rfl
  | some d =>
    simp only [Act.put]
    have h : a.tmps.setIfInBounds d (a.tmps.getD d undef) = a.tmps := by
      apply Array.ext
      · simp
      · intro i h1 h2
        rw [Array.getElem_setIfInBounds h2]
        split
        · rename_i e
          subst e
          simp [Array.getD, h2]
        · rfl
    rw [h]
theorem putAll_put_none : ∀ (l : List Oper) (xs : List Value) (a : Act) (d : Option Tmp) (v : Value), noneOf d l = true → (putAll a l xs).put d v = putAll (a.put d v) l xs
  | [], xs, a, d, v, h => by simp [putAll]
  | o :: l, [], a, d, v, h => by simp [putAll]
  | o :: l, x :: xs, a, d, v, h => by
    have h1 : noneOf d l = true := by
      cases d with
      | none => rfl
      | some d => simp only [noneOf, List.all_cons, Bool.and_eq_true] at h ⊢; exact h.2
    rw [putAll, putAll, putAll_put_none l xs _ d v h1, put_comm]
    intro p q hp hq e
    subst e
    rw [hq] at h
    simp [noneOf, hp] at h
theorem putAll_put : ∀ (l : List Oper) (xs : List Value) (a : Act) (i : Nat) (o : Oper) (v : Value), dstB l = true → l[i]? = some o → i < xs.length → (putAll a l xs).put o.dst v = putAll a l (xs.set i v)
  | [], xs, a, i, o, v, hd, ho, hi => by simp at ho
  | p :: l, [], a, i, o, v, hd, ho, hi => by simp at hi
  | p :: l, x :: xs, a, 0, o, v, hd, ho, hi => by
    obtain rfl : p = o := by simpa using ho
    simp only [dstB, Bool.and_eq_true] at hd
    rw [putAll, List.set_cons_zero, putAll, putAll_put_none l xs _ _ v hd.1, put_put]
  | p :: l, x :: xs, a, i + 1, o, v, hd, ho, hi => by
    simp only [dstB, Bool.and_eq_true] at hd
    rw [putAll, List.set_cons_succ, putAll, putAll_put l xs _ i o v hd.2 (by simpa using ho) (by simpa using hi)]
def ownVals (a : Act) (l : List Oper) : List Value := l.map fun o => match o.dst with | some d => a.tmps.getD d undef | none => undef
theorem putAll_own : ∀ (l : List Oper) (a : Act) (n : Nat), putAll a l ((ownVals a l).take n) = a
  | [], a, n => by simp [putAll]
  | o :: l, a, 0 => by simp [putAll]
  | o :: l, a, n + 1 => by
    have h := putAll_own l a n
    unfold ownVals at h ⊢
    rw [List.map_cons, List.take_succ_cons, putAll, put_own]
    exact h

/-- What holds of an operation's value, by the values on which it waits, the blocks from lo to hi, and the world; it stays while these blocks do. -/
structure Fact where
  p : Value → List Value → Nat → Nat → World → Prop
  mono : ∀ {v : Value} {d : List Value} {lo hi : Nat} {w w' : World}, (∀ b, b < hi → w'.heap[b]? = w.heap[b]?) → p v d lo hi w → p v d lo hi w'
def Fact.val (f : List Value → Value) : Fact := ⟨fun v d _ _ _ => v = f d, fun _ h => h⟩
def Fact.is (q : Value → List Value → Prop) : Fact := ⟨fun v d _ _ _ => q v d, fun _ h => h⟩
def Fact.box (f : List Value → Obj) : Fact := ⟨fun v d lo hi w => ∃ b, lo ≤ b ∧ b < hi ∧ v = .pointer (some ⟨b, 0, none⟩) ∧ w.heap[b]? = some (f d), fun hk ⟨b, h1, h2, h3, h4⟩ => ⟨b, h1, h2, h3, (hk b h2).trans h4⟩⟩
def Fact.row (n : Nat) (f : List Value → Obj) : Fact := ⟨fun v d lo hi w => ∃ b, lo ≤ b ∧ b < hi ∧ v = .slice (some ⟨b, 0, none⟩) n n ∧ w.heap[b]? = some (f d), fun hk ⟨b, h1, h2, h3, h4⟩ => ⟨b, h1, h2, h3, (hk b h2).trans h4⟩⟩
def Fact.own (base e size n : Nat) (xs : List Value → List Value) : Fact := ⟨fun v d lo hi w => (∀ b, v.ownBlock = some b → lo ≤ b ∧ b < hi) ∧ w.ownsRow base e size v n (xs d), fun hk ⟨h1, h2⟩ => ⟨h1, ownsRow_of_block h2 fun b hb => hk b (h1 b hb).2⟩⟩
def Fact.any : Fact := ⟨fun _ _ _ _ _ => True, fun _ _ => trivial⟩

/-- Where just the operations of L have been run, all of the first n. -/
structure Made (R : Nat → Fact) (l : List Oper) (n : Nat) (w0 : World) (L : Nat → Prop) (xs : List Value) (lo hi : Nat → Nat) (w : World) : Prop where
  len : xs.length = n
  closed : ∀ j, L j → ∀ d, (deps l j).contains d = true → L d
  lt : ∀ j, L j → j < n
  bel : Below w0.heap.size w0 w
  rel : ∀ j, L j → (R j).p (xs.getD j undef) ((deps l j).map fun d => xs.getD d undef) (lo j) (hi j) w
  lohi : ∀ j, L j → w0.heap.size ≤ lo j ∧ lo j ≤ hi j ∧ hi j ≤ w.heap.size
  apart : ∀ i j, L i → L j → i ≠ j → hi i ≤ lo j ∨ hi j ≤ lo i

section
variable {P : Program} {R : Nat → Fact} {l : List Oper} {n : Nat} {w0 w : World} {L : Nat → Prop} {xs : List Value} {lo hi : Nat → Nat}

theorem deps_binds {i d : Nat} {o : Oper} (ho : l[i]? = some o) (h : (deps l i).contains d = true) : ∃ e ∈ o.after, Region.binds .any e = true ∧ e.on = d := by
  unfold deps at h
  rw [ho] at h
  simp only [depsOf, List.contains_iff_mem, List.mem_map, List.mem_filter] at h
  obtain ⟨e, ⟨h1, h2⟩, h3⟩ := h
  exact ⟨e, by simpa using h1, h2, h3⟩

theorem Made.step (h : Made R l n w0 L xs lo hi w) {i : Nat} (hin : i < n) (hni : ¬ L i) (hpre : ∀ d, (deps l i).contains d = true → L d) {v : Value} {w' : World}
    (hbel : Below w.heap.size w w') (hr : (R i).p v ((deps l i).map fun d => xs.getD d undef) w.heap.size w'.heap.size w') :
    Made R l n w0 (fun j => j = i ∨ L j) (xs.set i v) (fun j => if j = i then w.heap.size else lo j) (fun j => if j = i then w'.heap.size else hi j) w' := by
  have hget : ∀ j, L j → (xs.set i v).getD j undef = xs.getD j undef := by
    intro j hj
    have hne : i ≠ j := fun e => hni (e ▸ hj)
    simp [List.getD, List.getElem?_set_ne hne]
  have hself : (xs.set i v).getD i undef = v := by
    have : i < xs.length := by rw [h.len]; exact hin
    simp [List.getD, this]
  have hmap : ∀ j, (j = i ∨ L j) → ((deps l j).map fun d => (xs.set i v).getD d undef) = (deps l j).map fun d => xs.getD d undef := by
    intro j hj
    refine List.map_congr_left fun d hd => hget d ?_
    have hc : (deps l j).contains d = true := by simpa using hd
    rcases hj with rfl | hj
    · exact hpre d hc
    · exact h.closed j hj d hc
  have hsz := hbel.size
  refine ⟨by rw [List.length_set]; exact h.len, ?_, ?_, h.bel.trans (hbel.mono h.bel.size), ?_, ?_, ?_⟩
  · rintro j (rfl | hj) d hd
    · exact .inr (hpre d hd)
    · exact .inr (h.closed j hj d hd)
  · rintro j (rfl | hj)
    · exact hin
    · exact h.lt j hj
  · rintro j (rfl | hj)
    · rw [hself, hmap j (.inl rfl), if_pos rfl, if_pos rfl]
      exact hr
    · have hne : j ≠ i := fun e => hni (e ▸ hj)
      rw [hget j hj, hmap j (.inr hj), if_neg hne, if_neg hne]
      have h3 := h.lohi j hj
      exact (R j).mono (fun b h2 => hbel.block b (by omega)) (h.rel j hj)
  · rintro j (rfl | hj)
    · rw [if_pos rfl, if_pos rfl]
      exact ⟨h.bel.size, hsz, Nat.le_refl _⟩
    · have hne : j ≠ i := fun e => hni (e ▸ hj)
      rw [if_neg hne, if_neg hne]
      have := h.lohi j hj
      omega
  · rintro p q (rfl | hp) (rfl | hq) hpq
    · exact absurd rfl hpq
    · have hne : q ≠ p := fun e => hpq e.symm
      rw [if_pos rfl, if_pos rfl, if_neg hne, if_neg hne]
      exact .inr (h.lohi q hq).2.2
    · rw [if_pos rfl, if_pos rfl, if_neg hpq, if_neg hpq]
      exact .inl (h.lohi p hp).2.2
    · have h1 : p ≠ i := fun e => hni (e ▸ hp)
      have h2 : q ≠ i := fun e => hni (e ▸ hq)
      rw [if_neg h1, if_neg h1, if_neg h2, if_neg h2]
      exact h.apart p q hp hq hpq

theorem Made.start {a0 : Act} (hl : n ≤ l.length) (w : World) : Made R l n w (fun _ => False) ((ownVals a0 l).take n) (fun _ => 0) (fun _ => 0) w.drew :=
  ⟨by simp [ownVals]; omega, fun _ h => h.elim, fun _ h => h.elim, ⟨rfl, rfl, rfl, Nat.le_refl _, fun _ _ => rfl⟩, fun _ h => h.elim, fun _ h => h.elim, fun _ _ h => h.elim⟩

/-- What is asked of one operation. -/
def StepOk (P : Program) (R : Nat → Fact) (a0 : Act) (l : List Oper) (n : Nat) (w0 : World) (i : Nat) (o : Oper) : Prop :=
  ∀ (L : Nat → Prop) (xs : List Value) (lo hi : Nat → Nat) (w : World), Made R l n w0 L xs lo hi w → ¬ L i → (∀ d, (deps l i).contains d = true → L d) →
    o.wp P (putAll a0 l xs) w (fun a' w' => ∃ v, a' = (putAll a0 l xs).put o.dst v ∧ Below w.heap.size w w' ∧ (R i).p v ((deps l i).map fun d => xs.getD d undef) w.heap.size w'.heap.size w') (fun _ _ _ => False)

/-- Do all operations stand ahead of one? -/
def aheadB (l : List Oper) (n : Nat) : Bool :=
  let rec go : Nat → List Bool → List Bool
    | 0, s => s
    | f + 1, s => go f ((List.range n).map fun j => s.getD j false || (List.range n).any fun i => s.getD i false && (deps l i).contains j)
  (go n ((List.range n).map fun j => (deps l n).contains j)).all id
theorem ahead_go {n : Nat} (hc : ∀ j, L j → ∀ d, (deps l j).contains d = true → L d) : ∀ (f : Nat) (s : List Bool), (∀ j, s.getD j false = true → L j) → ∀ j, (aheadB.go l n f s).getD j false = true → L j
  | 0, s, h, j, hj => h j hj
  | f + 1, s, h, j, hj => by
    rw [aheadB.go] at hj
    refine ahead_go hc f _ (fun q hq => ?_) j hj
    rw [List.getD_eq_getElem?_getD, List.getElem?_map] at hq
    cases hr : (List.range n)[q]? with
    | none => rw [hr] at hq; simp at hq
    | some r =>
      rw [hr] at hq
      obtain rfl : r = q := by
        have := List.getElem?_eq_some_iff.1 hr
        obtain ⟨h1, h2⟩ := this
        rw [List.getElem_range] at h2
        exact h2.symm
      simp only [Option.map_some, Option.getD_some, Bool.or_eq_true, List.any_eq_true, Bool.and_eq_true] at hq
      rcases hq with hq | ⟨i, -, h1, h2⟩
      · exact h r hq
      · exact hc i (h i h1) r h2
theorem ahead_all (h : aheadB l n = true) (hc : ∀ j, L j → ∀ d, (deps l j).contains d = true → L d) (hd : ∀ d, (deps l n).contains d = true → L d) : ∀ j, j < n → L j := by
  have hlen : ∀ (f : Nat) (s : List Bool), s.length = n → (aheadB.go l n f s).length = n := by
    intro f
    induction f with
    | zero => intro s hs; exact hs
    | succ f ih => intro s hs; rw [aheadB.go]; exact ih _ (by simp)
  intro j hj
  refine ahead_go (n := n) hc n ((List.range n).map fun j => (deps l n).contains j) (fun q hq => ?_) j ?_
  · rw [List.getD_eq_getElem?_getD, List.getElem?_map] at hq
    cases hr : (List.range n)[q]? with
    | none => rw [hr] at hq; simp at hq
    | some r =>
      rw [hr] at hq
      obtain ⟨h1, h2⟩ := List.getElem?_eq_some_iff.1 hr
      rw [List.getElem_range] at h2
      subst h2
      exact hd _ (by simpa using hq)
  · unfold aheadB at h
    have h1 := List.all_eq_true.1 h
    have h2 : j < (aheadB.go l n n ((List.range n).map fun j => (deps l n).contains j)).length := by rw [hlen _ _ (by simp)]; exact hj
    rw [List.getD_eq_getElem?_getD, List.getElem?_eq_getElem h2]
    simpa using h1 _ (List.getElem_mem h2)


theorem wpOp_mono {ops : Array Oper} {Q : Exit → Act → World → Prop} {i : Nat} {K K' : Act → World → Prop} {a : Act} (h : wpOp P ops Q i K a w) (hk : ∀ a' w', K a' w' → K' a' w') : wpOp P ops Q i K' a w := by
  unfold wpOp at h ⊢
  cases ho : ops[i]? with
  | none => rw [ho] at h; exact hk _ _ h
  | some o =>
    rw [ho] at h
    dsimp only at h ⊢
    split
    · rename_i hw
      rw [if_pos hw] at h
      rcases h with h | h
      · exact .inl (wp_weaken hk (fun _ _ _ h => h) (fun h => h) h)
      · exact .inr h
    · rename_i hw
      rw [if_neg hw] at h
      exact hk _ _ h

/-- A region by what holds behind each set of its operations; each operation as the region itself asks it. -/
theorem wp_region_inv2 (I : (Nat → Prop) → Act → World → Prop) {id : Nat} {Q : Exit → Act → World → Prop} {a : Act} (hm : P.follows .mixedOrders = true) (hb : backB .any l.toArray = true)
    (h0 : I (fun _ => False) a w.drew)
    (hstep : ∀ (L : Nat → Prop) (i : Nat) (a : Act) (w : World), i < l.length → ¬ L i → (∀ d, (deps l i).contains d = true → L d) → I L a w → wpOp P l.toArray Q i (fun a' w' => I (fun j => j = i ∨ L j) a' w') a w)
    (hend : ∀ (L : Nat → Prop) (a : Act) (w : World), (∀ j, j < l.length → L j) → I L a w → Q .normal a w) :
    (Code.region id l.toArray true).wp P Q a w := by
  have main : ∀ (fuel : Nat) (listed : Array Bool) (a : Act) (w : World), listed.size = l.toArray.size → listed.toList.count false ≤ fuel → I (fun j => listed.getD j false = true) a w →
      wpAny P .any l.toArray Q fuel listed a w := by
    intro fuel
    induction fuel with
    | zero =>
      intro listed a w hsz hc hI
      have hall : ∀ j, j < listed.size → listed.getD j false = true := fun j hj => by
        cases hx : listed.getD j false with
        | true => rfl
        | false =>
          exfalso
          have h1 := count_set_true hj (by rw [getD_flip hj true false]; exact hx)
          omega
      refine ⟨?_, hend _ a w (fun j hj => hall j (by rw [hsz]; simpa using hj)) hI⟩
      rw [List.eq_nil_iff_forall_not_mem]
      intro j hj
      obtain ⟨h1, x, hx, _⟩ := mem_ready.1 hj
      have hjl : j < listed.size := by rw [hsz]; exact (Array.getElem?_eq_some_iff.1 hx).1
      rw [getD_flip hjl true false, hall j hjl] at h1
      cases h1
    | succ fuel ih =>
      intro listed a w hsz hc hI
      refine ⟨fun he => hend _ a w (fun j hj => ?_) hI, fun i hi => ?_⟩
      · have hjl : j < listed.size := by rw [hsz]; simpa using hj
        cases hx : listed.getD j false with
        | true => rfl
        | false => exact absurd he (some_ready hb listed hsz j (by rw [← hsz]; exact hjl) (by rw [getD_flip hjl true false]; exact hx))
      · obtain ⟨h1, x, hx, h2⟩ := mem_ready.1 hi
        have hil : i < listed.size := by rw [hsz]; exact (Array.getElem?_eq_some_iff.1 hx).1
        have hxl : l[i]? = some x := by simpa using hx
        have hs := hstep (fun j => listed.getD j false = true) i a w (by rw [hsz] at hil; simpa using hil) (by rw [getD_flip hil false true, h1]; simp) (fun d hd => by
          obtain ⟨e, e1, e2, rfl⟩ := deps_binds hxl hd
          exact h2 e e1 e2) hI
        refine wpOp_mono hs fun a' w' hK => ?_
        refine ih _ a' w' (by simpa using hsz) (by have := count_set_true hil h1; omega) ?_
        have he : (fun j => (listed.setIfInBounds i true).getD j false = true) = fun j => j = i ∨ listed.getD j false = true := by
          funext j
          exact propext (getD_set_iff hil)
        rw [he]
        exact hK
  refine wp_region_any hm (main _ _ a _ (by simp) (by simp) ?_)
  have he : (fun j => (Array.replicate l.toArray.size false).getD j false = true) = fun _ => False := by
    funext j
    apply propext
    refine ⟨fun h => ?_, fun h => h.elim⟩
    have h1 : (Array.replicate l.toArray.size false).getD j false = false := by simp [Array.getD]
    rw [h1] at h
    cases h
  rw [he]
  exact h0

def tailB (l : List Oper) (n : Nat) : Bool := (List.range (l.length - n)).all fun t => aheadB l (n + t)

/-- **THE FIRST n OPERATIONS MAKE MEMORY OF THEIR OWN, IN ANY ORDER; each behind them waits for all ahead of it.** The goal that is left is the tail, as a plain region has it. -/
theorem wp_region_made (R : Nat → Fact) (n : Nat) {id : Nat} {Q : Exit → Act → World → Prop} {a0 : Act} (hm : P.follows .mixedOrders = true) (hb : backB .any l.toArray = true)
    (hg : ((l.take n).all fun o => o.guard.isNone) = true) (hd : dstB l = true) (hn : n ≤ l.length) (ht : tailB l n = true)
    (hstep : ∀ i o, i < n → l[i]? = some o → StepOk P R a0 l n w0 i o)
    (hend : ∀ (xs : List Value) (lo hi : Nat → Nat) (w : World), Made R l n w0 (fun j => j < n) xs lo hi w → wpList P l.toArray Q (l.drop n) (putAll a0 l xs) w) :
    (Code.region id l.toArray true).wp P Q a0 w0 := by
  refine wp_region_inv2 (fun L a w => (∃ xs lo hi, a = putAll a0 l xs ∧ Made R l n w0 L xs lo hi w ∧ ¬ (∀ j, j < n → L j)) ∨ (∃ t, n ≤ t ∧ (L = fun j => j < t) ∧ wpList P l.toArray Q (l.drop t) a w)) hm hb ?_ ?_ ?_
  · have h0 : Made R l n w0 (fun _ => False) ((ownVals a0 l).take n) (fun _ => 0) (fun _ => 0) w0.drew := Made.start hn w0
    by_cases hz : n = 0
    · subst hz
      refine .inr ⟨0, Nat.le_refl _, by funext j; simp, ?_⟩
      have he : (fun _ => False) = fun j : Nat => j < 0 := by funext j; simp
      have := hend _ _ _ _ (he ▸ h0)
      rw [putAll_own] at this
      exact this
    · exact .inl ⟨_, _, _, (putAll_own l a0 n).symm, h0, fun h => h 0 (by omega)⟩
  · rintro L i a w hil hni hpre hcase
    obtain ⟨o, ho⟩ : ∃ o, l[i]? = some o := ⟨_, List.getElem?_eq_getElem hil⟩
    have hoa : l.toArray[i]? = some o := by simpa using ho
    have hahead : n ≤ i → (∀ j, L j → ∀ d, (deps l j).contains d = true → L d) → ∀ j, j < i → L j := by
      intro hni' hcl
      have h1 := List.all_eq_true.1 ht (i - n) (List.mem_range.2 (by omega))
      rw [show n + (i - n) = i by omega] at h1
      exact ahead_all h1 hcl hpre
    rcases hcase with ⟨xs, lo, hi, rfl, hmd, hno⟩ | ⟨t, hnt, rfl, hwp⟩
    · by_cases hin : i < n
      · have hgo : o.guard = none := by
          have h1 : o ∈ l.take n := by
            rw [List.mem_iff_getElem?]
            exact ⟨i, by rw [List.getElem?_take_of_lt hin]; exact ho⟩
          have := List.all_eq_true.1 hg o h1
          simpa using this
        unfold wpOp
        rw [hoa]
        simp only [Region.wanted, hgo, if_true]
        refine .inl (wp_weaken ?_ (fun _ _ _ h => h.elim) (fun ⟨_, _, h⟩ => h.elim) (hstep i o hin ho L xs lo hi w hmd hni hpre))
        rintro a' w' ⟨v, rfl, hbel, hr⟩
        have hmd' := hmd.step hin hni hpre hbel hr
        rw [putAll_put l xs a0 i o v hd ho (by rw [hmd.len]; exact hin)]
        by_cases hall : ∀ j, j < n → (j = i ∨ L j)
        · refine .inr ⟨n, Nat.le_refl _, ?_, ?_⟩
          · funext j
            exact propext ⟨hmd'.lt j, hall j⟩
          · have he : (fun j => j = i ∨ L j) = fun j => j < n := by
              funext j
              exact propext ⟨hmd'.lt j, hall j⟩
            rw [he] at hmd'
            exact hend _ _ _ _ hmd'
        · exact .inl ⟨_, _, _, rfl, hmd', hall⟩
      · exact absurd (fun j hj => hahead (by omega) hmd.closed j (by omega)) hno
    · have hti : i = t := by
        have h1 : t ≤ i := Nat.le_of_not_lt hni
        rcases Nat.lt_or_ge t i with h2 | h2
        · have h3 := hahead (by omega) (fun j hj d hdj => by
            obtain ⟨q, hq⟩ : ∃ q, l[j]? = some q := ⟨_, List.getElem?_eq_getElem (by omega)⟩
            obtain ⟨e, e1, e2, rfl⟩ := deps_binds hq hdj
            have := back_spec hb (by simpa using hq) e e1 e2
            omega) t h2
          omega
        · omega
      subst hti
      have hdr : l.drop i = o :: l.drop (i + 1) := by
        rw [List.drop_eq_getElem_cons hil]
        congr 1
        obtain ⟨_, h2⟩ := List.getElem?_eq_some_iff.1 ho
        exact h2
      rw [hdr] at hwp
      have hset : (fun j => j = i ∨ j < i) = fun j => j < i + 1 := by
        funext j
        apply propext
        omega
      unfold wpOp
      rw [hoa]
      dsimp only
      unfold wpList at hwp
      split
      · rename_i hw
        rw [if_pos hw] at hwp
        rcases hwp with hwp | hwp
        · refine .inl (wp_weaken (fun a' w' hK => ?_) (fun _ _ _ h => h) (fun h => h) hwp)
          exact .inr ⟨i + 1, by omega, hset, hK⟩
        · exact .inr hwp
      · rename_i hw
        rw [if_neg hw] at hwp
        exact .inr ⟨i + 1, by omega, hset, hwp⟩
  · rintro L a w hall hcase
    rcases hcase with ⟨xs, lo, hi, rfl, hmd, hno⟩ | ⟨t, hnt, rfl, hwp⟩
    · exact absurd (fun j hj => hall j (by omega)) hno
    · have h1 : l.drop t = [] := by
        rw [List.drop_eq_nil_iff]
        rcases Nat.lt_or_ge t l.length with h2 | h2
        · have := hall t h2
          omega
        · exact h2
      rw [h1] at hwp
      exact hwp

/-- One operation whose run is known, as a step. -/
theorem step_run {o : Oper} {a : Act} {w w' : World} {i : Nat} (v : Value) (hrun : (execOp a.eval o).run P w = .ok (.value v) w') (hbel : Below w.heap.size w w')
    (hr : (R i).p v ((deps l i).map fun d => xs.getD d undef) w.heap.size w'.heap.size w') : o.wp P a w (fun a' w' => ∃ v, a' = a.put o.dst v ∧ Below w.heap.size w w' ∧ (R i).p v ((deps l i).map fun d => xs.getD d undef) w.heap.size w'.heap.size w') (fun _ _ _ => False) :=
  opv_run hrun ⟨v, rfl, hbel, hr⟩
/-- One that changes nothing. -/
theorem step_pure {o : Oper} {a : Act} {w : World} {i : Nat} (v : Value) (hrun : (execOp a.eval o).run P w = .ok (.value v) w)
    (hr : (R i).p v ((deps l i).map fun d => xs.getD d undef) w.heap.size w.heap.size w) : o.wp P a w (fun a' w' => ∃ v, a' = a.put o.dst v ∧ Below w.heap.size w w' ∧ (R i).p v ((deps l i).map fun d => xs.getD d undef) w.heap.size w'.heap.size w') (fun _ _ _ => False) :=
  step_run v hrun (Below.refl _ _) hr
/-- One that makes a block. -/
theorem step_new {o : Oper} {a : Act} {w : World} {i : Nat} (v : Value) (x : Obj) (hrun : (execOp a.eval o).run P w = .ok (.value v) (w.alloc x))
    (hr : (R i).p v ((deps l i).map fun d => xs.getD d undef) w.heap.size (w.alloc x).heap.size (w.alloc x)) : o.wp P a w (fun a' w' => ∃ v, a' = a.put o.dst v ∧ Below w.heap.size w w' ∧ (R i).p v ((deps l i).map fun d => xs.getD d undef) w.heap.size w'.heap.size w') (fun _ _ _ => False) :=
  step_run v hrun ((Below.refl _ _).alloc (Nat.le_refl _) _) hr
/-- One call whose contract is known, as a step. -/
theorem step_call {o : Oper} {a : Act} {w : World} {i : Nat} {f : FuncId} {args : Array Value} {E : Ending → World → Prop} (hc : Calls P f args w E) (hrun : (execOp a.eval o).run P w = .ok (.enter f args) w)
    (hK : ∀ e w', E e w' → ∃ v, e = .returned v ∧ Below w.heap.size w w' ∧ (R i).p v ((deps l i).map fun d => xs.getD d undef) w.heap.size w'.heap.size w') : o.wp P a w (fun a' w' => ∃ v, a' = a.put o.dst v ∧ Below w.heap.size w w' ∧ (R i).p v ((deps l i).map fun d => xs.getD d undef) w.heap.size w'.heap.size w') (fun _ _ _ => False) :=
  op_call hrun hc fun e w' hE => let ⟨v, he, hb, hp⟩ := hK e w' hE; ⟨v, he, v, rfl, hb, hp⟩
end
/-- Cells and contracts at all worlds behind one. -/
theorem kin_cell {C : World → Prop} {w : World} (hC : C = fun w' => Below w.heap.size w w') {b o : Nat} {v : Value} (h : w.cell? ⟨b, o, none⟩ = some v) : ∀ y : Kin C, y.w.cell? ⟨b, o, none⟩ = some v := by
  subst hC
  exact fun y => below_cells y.has _ _ h
theorem kin_call {P : Program} {C : World → Prop} {w : World} (hC : C = fun w' => Below w.heap.size w w') {f : FuncId} {args : Array Value} {v : Value}
    (h : ∀ y, Below w.heap.size w y → Calls P f args y fun e w' => e = .returned v ∧ Below y.heap.size y w') : ∀ y : Kin C, Calls P f args y.w fun e w' => e = .returned v ∧ C w' := by
  subst hC
  exact fun y => (h y.w y.has).mono fun e w' ⟨he, hb⟩ => ⟨he, y.has.trans (hb.mono y.has.size)⟩
/-- Runs of single operations. -/
theorem ex_convert {P : Program} {o : Oper} {a : Act} {w w' : World} {v vx : Value} (x : Operand) (f t : TypeId) (ho : o.op = .convert f t x) (hx : a.eval x = vx) (hrun : (convert f t vx).run P w = .ok v w') : (execOp a.eval o).run P w = .ok (.value v) w' := by
  simp [execOp, ho, hx, hrun, Result.andThen]
theorem ex_make {P : Program} {o : Oper} {a : Act} {w w' : World} {v vx : Value} (x : Operand) (t : TypeId) (ho : o.op = .makeSlice t x x) (hx : a.eval x = vx) (hrun : (Instr.makeSlice t vx vx).run P w = .ok v w') : (execOp a.eval o).run P w = .ok (.value v) w' := by
  simp [execOp, ho, hx, hrun, Result.andThen]
end Go.Proofs.YtelindgnkpfkiaaGreatDoor
end

section
/-
  The document's coins: are two points the same, a point's place among entries. Conditions: the entries lie in memory.
-/
namespace Go.Proofs.YtelindgnkpfkiaaGreatDoor
open Go.RowKit Go.BigFrame
set_option linter.unusedVariables false
set_option linter.unusedSimpArgs false

theorem vbytes_ne {a b : ByteArray} (h : a ≠ b) : (a.toList == b.toList) = false := by
  rw [ByteArray.toList_eq, ByteArray.toList_eq, beq_eq_false_iff_ne]
  intro h'
  apply h
  cases a; cases b
  simp at h'
  rw [h']
def idxV (o : Option Nat) : Int := match o with | none => -1 | some i => (i : Int)
theorem find_miss {α : Type} {p : α → Bool} {xs : List α} {n : Nat} (hn : n = xs.length) (h : ∀ (j : Nat) (y : α), j < n → xs[j]? = some y → p y = false) : xs.findIdx? p = none := by
  rw [List.findIdx?_eq_none_iff]
  intro x hx
  obtain ⟨j, hj, rfl⟩ := List.getElem_of_mem hx
  exact h j _ (by omega) (List.getElem?_eq_getElem hj)
theorem find_hit {α : Type} {p : α → Bool} {xs : List α} {k : Nat} {x : α} (h : ∀ (j : Nat) (y : α), j < k → xs[j]? = some y → p y = false) (hx : xs[k]? = some x) (hp : p x = true) : xs.findIdx? p = some k := by
  obtain ⟨hk, e⟩ := List.getElem?_eq_some_iff.1 hx
  rw [List.findIdx?_eq_some_iff_getElem]
  refine ⟨hk, by rw [e]; exact hp, fun j hj => ?_⟩
  rw [h j xs[j] hj (List.getElem?_eq_getElem (by omega))]
  decide
theorem find_fst {α : Type} {p : α → Bool} {xs : List α} {o : Option Nat} (h : xs.findIdx? p = o) : xs.find? p = o.bind fun i => xs[i]? := by
  rw [← h]
  cases hf : xs.findIdx? p with
  | none =>
    rw [List.findIdx?_eq_none_iff] at hf
    rw [List.find?_eq_none.2 (fun x hx => by rw [hf x hx]; decide)]
    rfl
  | some i =>
    rw [List.findIdx?_eq_some_iff_getElem] at hf
    obtain ⟨hi, h1, h2⟩ := hf
    show _ = xs[i]?
    rw [List.getElem?_eq_getElem hi, List.find?_eq_some_iff_getElem]
    exact ⟨h1, i, hi, rfl, fun j hj => by have := h2 j hj; simpa using this⟩
def IdxP (o : Option Nat) (w : World) (e : Ending) (w' : World) : Prop := e = .returned (.int .i64 (idxV o)) ∧ Below w.heap.size w w'
theorem pt_ne {a b : Pt} (h : a ≠ b) : a.1 ≠ b.1 ∨ (a.1 = b.1 ∧ a.2 ≠ b.2) := by
  by_cases h1 : a.1 = b.1
  · exact .inr ⟨h1, fun h2 => h (Prod.ext h1 h2)⟩
  · exact .inl h1
set_option maxRecDepth 100000 in
set_option maxHeartbeats 2000000 in
theorem rsame10_any (p q : Pt) (hp : p.2 < 4294967296) (hq : q.2 < 4294967296) (w : World) : Calls Tryz.prog 68 #[.agg #[.string p.1, .int .u32 p.2], .agg #[.string q.1, .int .u32 q.2]] w (BIs (decide (p = q)) w) := by
  go_enter Tryz.func68, Tryz.ntmps68
  go_upto_region 1 with fail
  obtain ⟨X, hX⟩ : ∃ q, q = w.heap.size := ⟨_, rfl⟩
  have hnews := new2 w X hX (.cells #[.string p.1, .int .u32 p.2] 46) (.cells #[.string q.1, .int .u32 q.2] 46)
  rw [← hX]
  generalize ((w.alloc (.cells #[.string p.1, .int .u32 p.2] 46)).alloc (.cells #[.string q.1, .int .u32 q.2] 46)) = w0 at *
  obtain ⟨hz0, hz1, hal⟩ := hnews
  have p0 : w0.cell? ⟨X, 0, none⟩ = some (.string p.1) := cell_at hz0
  have p1 : w0.cell? ⟨X, 1, none⟩ = some (.int .u32 p.2) := cell_at hz0
  have q0 : w0.cell? ⟨X + 1, 0, none⟩ = some (.string q.1) := cell_at hz1
  have q1 : w0.cell? ⟨X + 1, 1, none⟩ = some (.int .u32 q.2) := cell_at hz1
  have HB := Lib.hid hal
  clear hz0 hz1 hal hX
  by_cases hkey : p = q
  · have HK := Lib.hid hkey
    have hbe : (p.1.toList == q.1.toList) = true := by rw [hkey]; exact beq_self_eq_true _
    have hie : (p.2 : Int) = (q.2 : Int) := by rw [hkey]
    have hie2 : decide (p.2 = q.2) = true := decide_eq_true (by rw [hkey])
    clear hkey
    go_wp2_with fail
    go_ret
    exact ⟨ret_bool (decide_eq_true HK.out).symm, HB.out⟩
  · have HK := Lib.hid hkey
    rcases pt_ne hkey with h1 | ⟨h1, h2⟩
    · have hbe := vbytes_ne h1
      clear hkey h1
      go_wp2_with fail
      go_ret
      exact ⟨ret_bool (decide_eq_false HK.out).symm, HB.out⟩
    · have hbe : (p.1.toList == q.1.toList) = true := by rw [h1]; exact beq_self_eq_true _
      have hie : ¬ ((p.2 : Int) = (q.2 : Int)) := by omega
      have hie2 : decide (p.2 = q.2) = false := decide_eq_false h2
      have hie3 : ((p.2 : Int) == (q.2 : Int)) = false := by rw [beq_eq_false_iff_ne]; omega
      clear hkey h1
      go_wp2_with fail
      go_ret
      exact ⟨ret_bool (decide_eq_false HK.out).symm, HB.out⟩
set_option maxRecDepth 100000 in
set_option maxHeartbeats 2000000 in
theorem r10find_any (sv : Value) (l : List PEn) (p : Pt) (w : World) (hsv : SlAt rpEn w sv l) (hp : p.2 < 4294967296) : Calls Tryz.prog 43 #[sv, .agg #[.string p.1, .int .u32 p.2]] w (IdxP (l.findIdx? fun x => decide (x.pt = p)) w) := by
  have HSL := Lib.hid hsv
  obtain ⟨a, c, rfl, hl1, hl2⟩ := hsv.shape
  rw [maxLen_eq] at hl2
  obtain ⟨n, hn⟩ : ∃ n, n = l.length := ⟨_, rfl⟩
  rw [← hn] at hl1 HSL ⊢
  have HN := Lib.hid hn
  clear hn hsv
  go_enter Tryz.func43, Tryz.ntmps43
  go_upto_region 1 with fail
  have hz := heap_alloc_new w (.cells #[.string p.1, .int .u32 p.2] 46)
  have hal : Below w.heap.size w (w.alloc (.cells #[.string p.1, .int .u32 p.2] 46)) := (Below.refl _ _).alloc (Nat.le_refl _) _
  obtain ⟨X, hX⟩ : ∃ q, q = w.heap.size := ⟨_, rfl⟩
  rw [← hX] at hz ⊢
  generalize w.alloc (.cells #[.string p.1, .int .u32 p.2] 46) = w0 at *
  have HZ := Lib.hid hz
  have HB := Lib.hid hal
  clear hz hal hX
  go_wp2_with fail
  go_loopg [5] n (fun g i wr => ∃ k : Nat, g = n - k ∧ k ≤ n ∧ i = .int .i64 k ∧ Below w.heap.size w wr ∧ wr.heap[X]? = some (.cells #[.string p.1, .int .u32 p.2] 46 (0, 0)) ∧ ∀ (j : Nat) (y : PEn), j < k → l[j]? = some y → decide (y.pt = p) = false)
  case atStart => exact ⟨0, rfl, by omega, rfl, HB.out, HZ.out, fun j y hj => absurd hj (Nat.not_lt_zero _)⟩
  case round =>
    clear HB HZ
    rename World => wo
    obtain ⟨k, hgk, hk, rfl, hb, hz, hno⟩ := hrel
    have HGK := Lib.hid hgk
    have HNO := Lib.hid hno
    have HB := Lib.hid hb
    have HZ := Lib.hid hz
    have p0 : wo.cell? ⟨X, 0, none⟩ = some (.string p.1) := cell_at hz
    have p1 : wo.cell? ⟨X, 1, none⟩ = some (.int .u32 p.2) := cell_at hz
    clear hgk hno hb hz
    by_cases hlt : k < n
    · obtain ⟨b, o, x, rfl, hx, hok, d0, d1, d2, d3, d4⟩ := (HSL.out.below HB.out).en hlt
      have HX := Lib.hid hx
      have hxi := hok.idx
      clear hx hok d2 d3 d4
      go_upto_region 4 with fail
      cases hkey : decide (x.pt = p)
      · have HNX := Lib.hid (before_step HNO.out HX.out hkey)
        have HQ := Lib.hid hkey
        clear hkey
        obtain ⟨C, hC⟩ : ∃ C : World → Prop, C = fun w' => Below wo.heap.size wo w' := ⟨_, rfl⟩
        have kp0 := kin_cell hC p0
        have kp1 := kin_cell hC p1
        have kd0 := kin_cell hC d0
        have kd1 := kin_cell hC d1
        have QNc := Lib.hid (kin_call hC fun y h => (HQ.out ▸ rsame10_any x.pt p hxi hp y))
        have HC := Lib.hid hC
        clear hC
        refine wp_region_kin C (by kernel_rfl) (by kernel_rfl) (by rw [HC.out]; exact ⟨rfl, rfl, rfl, Nat.le_refl _, fun _ _ => rfl⟩) ?_
        intro hne
        repeat (first | (go_big_quiet_step ((rename_i y; go_at_call 68; exact Calls.kin (QNc.out y) (fun w' h => h)))) | (quiet_step ((rename_i y; go_at_call 68; exact Calls.kin (QNc.out y) (fun w' h => h)))))
        refine wpQuiet_nil ?_
        intro _ hw'
        obtain ⟨kx, hw''⟩ := hw'
        subst hw''
        obtain ⟨w1, hxc⟩ := kx
        rw [HC.out] at hxc
        clear HC hne kp0 kp1 kd0 kd1
        have HB1 := Lib.hid (HB.out.trans (hxc.mono HB.out.size))
        have HZ := Lib.hid (stay HZ.out hxc)
        clear hxc p0 p1 d0 d1
        go_wp2_with fail
        go_roundg (n - (k + 1))
        case measure => have := HGK.out; omega
        case rel => exact ⟨k + 1, rfl, by omega, by go_num, HB1.out, HZ.out, HNX.out⟩
      · have HF := Lib.hid (find_hit HNO.out HX.out hkey)
        have HQ := Lib.hid hkey
        clear hkey
        obtain ⟨C, hC⟩ : ∃ C : World → Prop, C = fun w' => Below wo.heap.size wo w' := ⟨_, rfl⟩
        have kp0 := kin_cell hC p0
        have kp1 := kin_cell hC p1
        have kd0 := kin_cell hC d0
        have kd1 := kin_cell hC d1
        have QNc := Lib.hid (kin_call hC fun y h => (HQ.out ▸ rsame10_any x.pt p hxi hp y))
        have HC := Lib.hid hC
        clear hC
        refine wp_region_kin C (by kernel_rfl) (by kernel_rfl) (by rw [HC.out]; exact ⟨rfl, rfl, rfl, Nat.le_refl _, fun _ _ => rfl⟩) ?_
        intro hne
        repeat (first | (go_big_quiet_step ((rename_i y; go_at_call 68; exact Calls.kin (QNc.out y) (fun w' h => h)))) | (quiet_step ((rename_i y; go_at_call 68; exact Calls.kin (QNc.out y) (fun w' h => h)))))
        refine wpQuiet_nil ?_
        intro _ hw'
        obtain ⟨kx, hw''⟩ := hw'
        subst hw''
        obtain ⟨w1, hxc⟩ := kx
        rw [HC.out] at hxc
        clear HC hne kp0 kp1 kd0 kd1
        have HB1 := Lib.hid (HB.out.trans (hxc.mono HB.out.size))
        clear hxc
        go_wp2_with fail
        go_ret
        exact ⟨by rw [HF.out]; rfl, HB1.out⟩
    · obtain rfl : k = n := by omega
      have HF := Lib.hid (find_miss (p := fun y : PEn => decide (y.pt = p)) HN.out HNO.out)
      go_wp2_with fail
      go_ret
      exact ⟨by rw [HF.out]; rfl, HB.out⟩
end Go.Proofs.YtelindgnkpfkiaaGreatDoor
end
