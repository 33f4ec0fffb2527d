/-
  RecPuts, part 4: the texts TxK, TxL, TxN, TxWh, Oct, Wa, Sha, Sha2, Sha3, Sha4, Bld, ShaB, Wx, Wb, EF2, Ea, one after another. Conditions: none beyond those named at each.
-/
import Derived.Test.YtaooibocknemkaaGreatTxM
import Derived.Test.YtaooibocknemkaaGreatQ1RecPuts
import Derived.BigQuiet
import Derived.Deep.QuietTactic
import Derived.Deep.LoopGhost
import Derived.Deep.DeepCutAuto
import Derived.Laws.Cells
import Derived.Laws.CopyRow
import Derived.Deep.CutBlock
import Derived.Deep.WholeRow
import Derived.Laws.IdiomStrings
import Derived.Laws.OwnMore
import Derived.Test.YtaooibocknemkaaGreatShelf
import Derived.Lib.Builder
section
namespace Go.Proofs.YtaooibocknemkaaGreat
open Go.RowKit Go.BigFrame
set_option linter.unusedVariables false
set_option linter.unusedSimpArgs false

def sumOf (t : PTx) : Int × Int := sumA 0 (t.outs.map (·.val))
noncomputable def checkOf (t : PTx) : Int := if countsOf t then (if longOf t then 20 else if formedOf t then (if dup (ptsOf t) then 7 else (sumOf t).2) else 4) else 6
def CIs (c : Int) (w : World) (e : Ending) (w' : World) : Prop := e = .returned (.int .i64 c) ∧ Below w.heap.size w w'

theorem TB.tx {w : World} {va vo : Value} {t : PTx} {wr : World} (h : TB w va vo t wr) (hv : t.ver < 4294967296 ∧ t.lock < 4294967296) : TxAt wr (.agg #[.int .u32 t.ver, va, vo, .int .u32 t.lock]) t :=
  ⟨va, vo, rfl, h.ins, h.outs, hv.1, hv.2⟩

set_option maxRecDepth 100000 in
set_option maxHeartbeats 2000000 in
theorem check_any (v : Value) (t : PTx) (w : World) (hv : TxAt w v t) (hlen : t.outs.length ≤ 1000) : Calls Tryz.prog 77 #[v] w (CIs (checkOf t) w) := by
  obtain ⟨va, vo, rfl, hia, hob, hv1, hv2⟩ := hv
  obtain ⟨a, c, rfl, hl1, hl2⟩ := hia.shape
  obtain ⟨a', c', rfl, hl1', hl2'⟩ := hob.shape
  have htb := TB.start hia hob
  have HTB := Lib.hid htb
  have HV := Lib.hid (And.intro hv1 hv2)
  have HL := Lib.hid hlen
  clear htb hia hob hv1 hv2 hl1 hl2 hl1' hl2' hlen
  obtain ⟨r, hr⟩ : ∃ r, r = checkOf t := ⟨_, rfl⟩
  rw [← hr]
  unfold checkOf at hr
  have HR := Lib.hid hr
  clear hr
  go_enter Tryz.func77, Tryz.ntmps77
  go_upto_region 1 with fail
  obtain ⟨n, hn⟩ : ∃ n, n = t.ins.length := ⟨_, rfl⟩
  obtain ⟨n', hn'⟩ : ∃ n, n = t.outs.length := ⟨_, rfl⟩
  rw [← hn, ← hn'] at HTB
  rw [← hn, ← hn']
  clear hn hn'
  generalize w.alloc (.cells #[.int .u32 t.ver, .slice a n c, .slice a' n' c', .int .u32 t.lock] 26) = w0 at *
  have c0 : w0.cell? ⟨w.heap.size, 0, none⟩ = some (.int .u32 t.ver) := cell_at HTB.out.box
  have c1 : w0.cell? ⟨w.heap.size, 1, none⟩ = some (.slice a n c) := cell_at HTB.out.box
  have c2 : w0.cell? ⟨w.heap.size, 2, none⟩ = some (.slice a' n' c') := cell_at HTB.out.box
  have c3 : w0.cell? ⟨w.heap.size, 3, none⟩ = some (.int .u32 t.lock) := cell_at HTB.out.box
  go_wp2_with fail
  refine (total_any _ t w0 (HTB.out.tx HV.out) HL.out).mono ?_
  rintro e w1 ⟨rfl, hb⟩
  have HT1 := Lib.hid (HTB.out.next hb)
  replace c0 := below_cells hb _ _ c0
  replace c1 := below_cells hb _ _ c1
  replace c2 := below_cells hb _ _ c2
  replace c3 := below_cells hb _ _ c3
  clear hb HTB
  have HSM := Lib.hid (show sumOf t = sumA 0 (t.outs.map (·.val)) from rfl)
  rw [← HSM.out]
  generalize sumOf t = sm at *
  go_wp2_with fail
  refine (counts_any _ t w1 (HT1.out.tx HV.out)).mono ?_
  rintro e w2 ⟨rfl, hb⟩
  have HT2 := Lib.hid (HT1.out.next hb)
  replace c0 := below_cells hb _ _ c0
  replace c1 := below_cells hb _ _ c1
  replace c2 := below_cells hb _ _ c2
  replace c3 := below_cells hb _ _ c3
  clear hb HT1
  generalize countsOf t = b1 at *
  cases b1
  · go_wp2_with fail
    go_ret
    exact ⟨by rw [HR.out]; rfl, HT2.out.bel⟩
  go_wp2_with fail
  refine (long_any _ t w2 (HT2.out.tx HV.out)).mono ?_
  rintro e w3 ⟨rfl, hb⟩
  have HT3 := Lib.hid (HT2.out.next hb)
  replace c0 := below_cells hb _ _ c0
  replace c1 := below_cells hb _ _ c1
  replace c2 := below_cells hb _ _ c2
  replace c3 := below_cells hb _ _ c3
  clear hb HT2
  generalize longOf t = b2 at *
  cases b2
  rotate_left
  · go_wp2_with fail
    go_ret
    exact ⟨by rw [HR.out]; rfl, HT3.out.bel⟩
  go_wp2_with fail
  refine (formed_any _ t w3 (HT3.out.tx HV.out)).mono ?_
  rintro e w4 ⟨rfl, hb⟩
  have HT4 := Lib.hid (HT3.out.next hb)
  replace c0 := below_cells hb _ _ c0
  replace c1 := below_cells hb _ _ c1
  replace c2 := below_cells hb _ _ c2
  replace c3 := below_cells hb _ _ c3
  clear hb HT3
  generalize formedOf t = b3 at *
  cases b3
  · go_wp2_with fail
    go_ret
    exact ⟨by rw [HR.out]; rfl, HT4.out.bel⟩
  go_wp2_with fail
  refine (twice_any _ t w4 (HT4.out.tx HV.out)).mono ?_
  rintro e w5 ⟨rfl, hb⟩
  have HT5 := Lib.hid (HT4.out.next hb)
  clear hb HT4
  generalize dup (ptsOf t) = b4 at *
  cases b4
  · go_wp2_with fail
    go_ret
    exact ⟨by rw [HR.out]; rfl, HT5.out.bel⟩
  · go_wp2_with fail
    go_ret
    exact ⟨by rw [HR.out]; rfl, HT5.out.bel⟩
end Go.Proofs.YtaooibocknemkaaGreat
end

section
namespace Go.Proofs.YtaooibocknemkaaGreat
open Go.RowKit Go.BigFrame
set_option linter.unusedVariables false
set_option linter.unusedSimpArgs false

theorem any_at {α : Type} {p : α → Bool} {xs : List α} {k : Nat} {x : α} (hx : xs[k]? = some x) (hp : p x = true) : xs.any p = true := List.any_eq_true.2 ⟨x, List.mem_of_getElem? hx, hp⟩

set_option maxRecDepth 100000 in
set_option maxHeartbeats 2000000 in
theorem rlong_any (v : Value) (t : PTx) (w : World) (hv : TxAt w v t) : Calls Tryz.prog 73 #[v] w (BIs (longOf t) w) := by
  obtain ⟨va, vo, rfl, hia, hob, hv1, hv2⟩ := hv
  obtain ⟨a, c, rfl, hl1, hl2⟩ := hia.shape
  obtain ⟨a', c', rfl, hl1', hl2'⟩ := hob.shape
  rw [maxLen_eq] at hl2 hl2'
  have htb := TB.start hia hob
  have HTB := Lib.hid htb
  clear htb hia hob hv1 hv2
  obtain ⟨r, hr⟩ : ∃ r, r = longOf t := ⟨_, rfl⟩
  rw [← hr]
  unfold longOf at hr
  have HR := Lib.hid hr
  clear hr
  obtain ⟨n, hn⟩ : ∃ n, n = t.ins.length := ⟨_, rfl⟩
  obtain ⟨n', hn'⟩ : ∃ n, n = t.outs.length := ⟨_, rfl⟩
  rw [← hn, ← hn'] at HTB
  rw [← hn] at hl1 ⊢
  rw [← hn'] at hl1' ⊢
  have HN := Lib.hid hn
  have HN' := Lib.hid hn'
  clear hn hn'
  go_enter Tryz.func73, Tryz.ntmps73
  go_upto_region 1 with fail
  generalize w.alloc (.cells #[.int .u32 t.ver, .slice a n c, .slice a' n' c', .int .u32 t.lock] 26) = w0 at *
  have c1 : w0.cell? ⟨w.heap.size, 1, none⟩ = some (.slice a n c) := cell_at HTB.out.box
  have c2 : w0.cell? ⟨w.heap.size, 2, none⟩ = some (.slice a' n' c') := cell_at HTB.out.box
  go_wp2_with fail
  go_loopg [3] n' (fun g i wr => ∃ (k : Nat), g = n' - k ∧ k ≤ n' ∧ i = .int .i64 k ∧ wr = w0 ∧ ∀ (j : Nat) (y : POut), j < k → t.outs[j]? = some y → decide (40 < y.script.size) = false)
  case atStart => exact ⟨0, rfl, by omega, rfl, rfl, fun j y hj => absurd hj (Nat.not_lt_zero _)⟩
  case round =>
    rename World => wo
    obtain ⟨k, hgk, hk, rfl, rfl, hall⟩ := hrel
    have HGK := Lib.hid hgk
    have HALL := Lib.hid hall
    clear hgk hall
    by_cases hlt : k < n'
    · obtain ⟨b, o, x, rfl, hx, hok, d0, d1⟩ := HTB.out.outs.outp hlt
      have hsl : x.script.size ≤ 9223372036854775807 := by have := hok.2; rw [maxLen_eq] at this; exact this
      have HX := Lib.hid hx
      clear hx hok d0
      by_cases h40 : 40 < x.script.size
      · have HF := Lib.hid (any_at (p := fun x : POut => decide (40 < x.script.size)) HX.out (decide_eq_true h40))
        go_wp2_with fail
        go_ret
        exact ⟨ret_bool (by rw [HR.out, HF.out]; rfl), HTB.out.bel⟩
      · have HNX := Lib.hid (before_step HALL.out HX.out (decide_eq_false h40))
        go_wp2_with fail
        go_roundg (n' - (k + 1))
        case measure => have := HGK.out; omega
        case rel => exact ⟨k + 1, rfl, by omega, by go_num, rfl, HNX.out⟩
    · obtain rfl : k = n' := by omega
      have HO := Lib.hid (any_no HN'.out HALL.out)
      rw [HO.out, Bool.false_or] at HR
      clear HALL HGK hlt hk
      go_wp2_with fail
      go_loopg [4] n (fun g i wr => ∃ (k : Nat), g = n - k ∧ k ≤ n ∧ i = .int .i64 k ∧ wr = wo ∧ ∀ (j : Nat) (y : PIn), j < k → t.ins[j]? = some y → longIn y = false)
      case atStart => exact ⟨0, rfl, by omega, rfl, rfl, fun j y hj => absurd hj (Nat.not_lt_zero _)⟩
      case round =>
        rename World => wp
        obtain ⟨k, hgk, hk, rfl, rfl, hall⟩ := hrel
        have HGK := Lib.hid hgk
        have HALL := Lib.hid hall
        clear hgk hall
        by_cases hlt : k < n
        · obtain ⟨b, o, x, wv, rfl, hx, hseq, hidx, hid, hwv, d0, d1, d2, d3⟩ := HTB.out.ins.inp hlt
          obtain ⟨wa, wc, rfl, hw1, hw2⟩ := hwv.shape
          rw [maxLen_eq] at hw2
          have HX := Lib.hid hx
          obtain ⟨wl, hwl⟩ : ∃ wl, wl = x.wit.length := ⟨_, rfl⟩
          rw [← hwl] at hwv hw1 d3
          have HWV := Lib.hid hwv
          have HWL := Lib.hid hwl
          clear hx hwv hwl d0 d1 d2
          go_wp2_with fail
          go_loopg [5] wl (fun g i wr => ∃ (q : Nat), g = wl - q ∧ q ≤ wl ∧ i = .int .i64 q ∧ wr = wp ∧ ∀ (j : Nat) (y : ByteArray), j < q → x.wit[j]? = some y → decide (80 < y.size) = false)
          case atStart => exact ⟨0, rfl, by omega, rfl, rfl, fun j y hj => absurd hj (Nat.not_lt_zero _)⟩
          case round =>
            rename World => wq
            obtain ⟨q, hgq, hq, rfl, rfl, hall⟩ := hrel
            have HGQ := Lib.hid hgq
            have HAQ := Lib.hid hall
            clear hgq hall
            by_cases hql : q < wl
            · obtain ⟨b2, o2, y, rfl, hy, hys, e0⟩ := HWV.out.str hql
              have HY := Lib.hid hy
              clear hy
              by_cases h80 : 80 < y.size
              · have HF := Lib.hid (any_at (p := longIn) HX.out (any_at (p := fun s : ByteArray => decide (80 < s.size)) HY.out (decide_eq_true h80)))
                go_wp2_with fail
                go_ret
                exact ⟨ret_bool (by rw [HR.out, HF.out]), HTB.out.bel⟩
              · have HNX := Lib.hid (before_step HAQ.out HY.out (decide_eq_false h80))
                go_wp2_with fail
                go_roundg (wl - (q + 1))
                case measure => have := HGQ.out; omega
                case rel => exact ⟨q + 1, rfl, by omega, by go_num, rfl, HNX.out⟩
            · obtain rfl : q = wl := by omega
              have HNX := Lib.hid (before_step HALL.out HX.out (show longIn x = false from any_no HWL.out HAQ.out))
              go_wp2_with fail
              go_roundg (n - (k + 1))
              case measure => have := HGK.out; omega
              case rel => exact ⟨k + 1, rfl, by omega, by go_num, rfl, HNX.out⟩
        · obtain rfl : k = n := by omega
          have HF := Lib.hid (any_no HN.out HALL.out)
          go_wp2_with fail
          go_ret
          exact ⟨ret_bool (by rw [HR.out, HF.out]), HTB.out.bel⟩
end Go.Proofs.YtaooibocknemkaaGreat
end

section
namespace Go.Proofs.YtaooibocknemkaaGreat
open Go.RowKit Go.BigFrame
set_option linter.unusedVariables false
set_option linter.unusedSimpArgs false

theorem check_counts {t : PTx} (h : countsOf t = false) : checkOf t = 6 := by unfold checkOf; rw [h]; rfl
theorem check_long {t : PTx} (h : countsOf t = true) (h2 : longOf t = true) : checkOf t = 20 := by unfold checkOf; rw [h, h2]; rfl
theorem check_form {t : PTx} (h : countsOf t = true) (h2 : longOf t = false) (h3 : formedOf t = false) : checkOf t = 4 := by unfold checkOf; rw [h, h2, h3]; rfl
theorem check_dup {t : PTx} (h : countsOf t = true) (h2 : longOf t = false) (h3 : formedOf t = true) (h4 : dup (ptsOf t) = true) : checkOf t = 7 := by unfold checkOf; rw [h, h2, h3, h4]; rfl
theorem check_sum {t : PTx} (h : countsOf t = true) (h2 : longOf t = false) (h3 : formedOf t = true) (h4 : dup (ptsOf t) = false) : checkOf t = (sumOf t).2 := by unfold checkOf; rw [h, h2, h3, h4]; rfl
theorem counts_of {t : PTx} (h : 1 ≤ t.ins.length ∧ t.ins.length ≤ 256 ∧ 1 ≤ t.outs.length ∧ t.outs.length ≤ 256) (hw : (t.ins.any fun x => decide (4 < x.wit.length)) = false) : countsOf t = true := by
  unfold countsOf
  rw [hw, decide_eq_true h.1, decide_eq_true h.2.1, decide_eq_true h.2.2.1, decide_eq_true h.2.2.2]
  rfl
theorem counts_not {t : PTx} (h : ¬ (1 ≤ t.ins.length ∧ t.ins.length ≤ 256 ∧ 1 ≤ t.outs.length ∧ t.outs.length ≤ 256)) : countsOf t = false := by
  cases hc : countsOf t
  · rfl
  · exfalso
    apply h
    unfold countsOf at hc
    simp only [Bool.and_eq_true, decide_eq_true_eq] at hc
    exact ⟨hc.1.1.1, hc.1.1.2, hc.1.2.1, hc.1.2.2⟩
theorem counts_wit {t : PTx} (h : (t.ins.any fun x => decide (4 < x.wit.length)) = true) : countsOf t = false := by
  unfold countsOf
  rw [h]
  simp

theorem ne_step {ps : List Pt} {p z : Pt} {j : Nat} (h : ∀ (l : Nat) (z : Pt), l < j → ps[l]? = some z → z ≠ p) (hz : ps[j]? = some z) (hne : z ≠ p) : ∀ (l : Nat) (z : Pt), l < j + 1 → ps[l]? = some z → z ≠ p := by
  intro l z' hl hz'
  rcases Nat.lt_or_ge l j with h1 | h1
  · exact h l z' h1 hz'
  · obtain rfl : l = j := by omega
    rw [hz] at hz'
    obtain rfl := Option.some.inj hz'
    exact hne
theorem ne_mem {ps : List Pt} {p : Pt} {k : Nat} (h : ∀ (l : Nat) (z : Pt), l < k → ps[l]? = some z → z ≠ p) : p ∉ ps.take k := by
  intro hm
  obtain ⟨l, hl⟩ := List.mem_iff_getElem?.1 hm
  rw [List.getElem?_take] at hl
  by_cases hlk : l < k
  · rw [if_pos hlk] at hl
    exact h l p hlk hl rfl
  · rw [if_neg hlk] at hl
    cases hl

set_option maxRecDepth 100000 in
set_option maxHeartbeats 4000000 in
theorem rcheck_any (v : Value) (t : PTx) (w : World) (hv : TxAt w v t) (hlen : t.outs.length ≤ 1000) : Calls Tryz.prog 44 #[v] w (CIs (checkOf t) w) := by
  obtain ⟨va, vo, rfl, hia, hob, hv1, hv2⟩ := hv
  obtain ⟨a, c, rfl, hl1, hl2⟩ := hia.shape
  obtain ⟨a', c', rfl, hl1', hl2'⟩ := hob.shape
  rw [maxLen_eq] at hl2 hl2'
  have htb := TB.start hia hob
  have HTB := Lib.hid htb
  have HV := Lib.hid (And.intro hv1 hv2)
  have HL := Lib.hid hlen
  clear htb hia hob hv1 hv2 hlen
  obtain ⟨r, hr⟩ : ∃ r, r = checkOf t := ⟨_, rfl⟩
  rw [← hr]
  have HR := Lib.hid hr
  clear hr
  obtain ⟨n, hn⟩ : ∃ n, n = t.ins.length := ⟨_, rfl⟩
  obtain ⟨n', hn'⟩ : ∃ n, n = t.outs.length := ⟨_, rfl⟩
  rw [← hn, ← hn'] at HTB
  rw [← hn] at hl1 ⊢
  rw [← hn'] at hl1' ⊢
  have HN := Lib.hid hn
  have HN' := Lib.hid hn'
  clear hn hn'
  go_enter Tryz.func44, Tryz.ntmps44
  go_upto_region 1 with fail
  generalize w.alloc (.cells #[.int .u32 t.ver, .slice a n c, .slice a' n' c', .int .u32 t.lock] 26) = w0 at *
  have c1 : w0.cell? ⟨w.heap.size, 1, none⟩ = some (.slice a n c) := cell_at HTB.out.box
  have c2 : w0.cell? ⟨w.heap.size, 2, none⟩ = some (.slice a' n' c') := cell_at HTB.out.box
  by_cases hc : 1 ≤ n ∧ n ≤ 256 ∧ 1 ≤ n' ∧ n' ≤ 256
  rotate_left
  · have HF := Lib.hid (check_counts (counts_not (by rw [← HN.out, ← HN'.out]; exact hc)))
    have hnot : ¬ (1 ≤ n) ∨ (1 ≤ n ∧ ¬ n ≤ 256) ∨ (1 ≤ n ∧ n ≤ 256 ∧ ¬ 1 ≤ n') ∨ (1 ≤ n ∧ n ≤ 256 ∧ 1 ≤ n' ∧ ¬ n' ≤ 256) := by omega
    clear hc
    rcases hnot with h1 | ⟨h1, h2⟩ | ⟨h1, h2, h3⟩ | ⟨h1, h2, h3, h4⟩
    · go_wp2_with fail
      go_ret
      exact ⟨by rw [HR.out, HF.out]; rfl, HTB.out.bel⟩
    · go_wp2_with fail
      go_ret
      exact ⟨by rw [HR.out, HF.out]; rfl, HTB.out.bel⟩
    · go_wp2_with fail
      go_ret
      exact ⟨by rw [HR.out, HF.out]; rfl, HTB.out.bel⟩
    · go_wp2_with fail
      go_ret
      exact ⟨by rw [HR.out, HF.out]; rfl, HTB.out.bel⟩
  obtain ⟨h1, h2, h3, h4⟩ := hc
  have HC := Lib.hid (show 1 ≤ t.ins.length ∧ t.ins.length ≤ 256 ∧ 1 ≤ t.outs.length ∧ t.outs.length ≤ 256 by rw [← HN.out, ← HN'.out]; exact ⟨h1, h2, h3, h4⟩)
  go_wp2_with fail
  go_loopg [3] n (fun g i wr => ∃ (k : Nat), g = n - k ∧ k ≤ n ∧ i = .int .i64 k ∧ wr = w0 ∧ ∀ (j : Nat) (y : PIn), j < k → t.ins[j]? = some y → decide (4 < y.wit.length) = false)
  case atStart => exact ⟨0, rfl, by omega, rfl, rfl, fun j y hj => absurd hj (Nat.not_lt_zero _)⟩
  case round =>
    rename World => wo
    obtain ⟨k, hgk, hk, rfl, rfl, hall⟩ := hrel
    have HGK := Lib.hid hgk
    have HALL := Lib.hid hall
    clear hgk hall
    by_cases hlt : k < n
    · obtain ⟨b, o, x, wv, rfl, hx, hseq, hidx, hid, hwv, d0, d1, d2, d3⟩ := HTB.out.ins.inp hlt
      obtain ⟨wa, wc, rfl, hw1, hw2⟩ := hwv.shape
      rw [maxLen_eq] at hw2
      have HX := Lib.hid hx
      clear hx hwv d0 d1 d2
      by_cases h40 : 4 < x.wit.length
      · have HF := Lib.hid (check_counts (counts_wit (any_at (p := fun x : PIn => decide (4 < x.wit.length)) HX.out (decide_eq_true h40))))
        go_wp2_with fail
        go_ret
        exact ⟨by rw [HR.out, HF.out]; rfl, HTB.out.bel⟩
      · have HNX := Lib.hid (before_step HALL.out HX.out (decide_eq_false h40))
        go_wp2_with fail
        go_roundg (n - (k + 1))
        case measure => have := HGK.out; omega
        case rel => exact ⟨k + 1, rfl, by omega, by go_num, rfl, HNX.out⟩
    · obtain rfl : k = n := by omega
      have HO := Lib.hid (counts_of HC.out (any_no HN.out HALL.out))
      clear HALL HGK hlt hk HC
      have c0 : wo.cell? ⟨w.heap.size, 0, none⟩ = some (.int .u32 t.ver) := cell_at HTB.out.box
      have c3 : wo.cell? ⟨w.heap.size, 3, none⟩ = some (.int .u32 t.lock) := cell_at HTB.out.box
      go_wp2_with fail
      refine (rlong_any _ t wo (HTB.out.tx HV.out)).mono ?_
      rintro e w1 ⟨rfl, hb⟩
      have HT1 := Lib.hid (HTB.out.next hb)
      replace c1 := below_cells hb _ _ c1
      clear hb HTB c0 c2 c3
      cases hlg : longOf t
      rotate_left
      · have HF := Lib.hid (check_long HO.out hlg)
        go_wp2_with fail
        go_ret
        exact ⟨by rw [HR.out, HF.out]; rfl, HT1.out.bel⟩
      have HLG := Lib.hid hlg
      clear hlg
      go_wp2_with fail
      go_loopg [5] k (fun g i wr => ∃ (q : Nat), g = k - q ∧ q ≤ k ∧ i = .int .i64 q ∧ TB w (.slice a k c) (.slice a' n' c') t wr ∧ ∀ (j : Nat) (y : PIn), j < q → t.ins[j]? = some y → formIn k y = true)
      case atStart => exact ⟨0, rfl, by omega, rfl, HT1.out, fun j y hj => absurd hj (Nat.not_lt_zero _)⟩
      case round =>
        clear HT1 c1
        rename World => wp
        obtain ⟨q, hgq, hq, rfl, htb, hall⟩ := hrel
        have HGQ := Lib.hid hgq
        have HALL := Lib.hid hall
        have HTB := Lib.hid htb
        have c1 : wp.cell? ⟨w.heap.size, 1, none⟩ = some (.slice a k c) := cell_at htb.box
        clear hgq hall htb
        by_cases hlt : q < k
        · obtain ⟨b, o, x, wv, rfl, hx, hseq, hidx, hid, hwv, d0, d1, d2, d3⟩ := HTB.out.ins.inp hlt
          have HX := Lib.hid hx
          clear hx hwv d2 d3
          go_wp2_with fail
          refine (rbase_any x.id x.idx hidx hid wp).mono ?_
          rintro e w2 ⟨rfl, hb⟩
          have HT2 := Lib.hid (HTB.out.next hb)
          replace c1 := below_cells hb _ _ c1
          replace d0 := below_cells hb _ _ d0
          clear hb HTB d1
          cases hbs : isBase x.id x.idx
          · by_cases h32 : x.id.size = 32
            · have hz0 : (x.id.size : Int) = 32 := by omega
              have HNX := Lib.hid (all_step HALL.out HX.out (by unfold formIn; rw [decide_eq_true h32, hbs]; rfl))
              go_wp2_with fail
              go_roundg (k - (q + 1))
              case measure => have := HGQ.out; omega
              case rel => exact ⟨q + 1, rfl, by omega, by go_num, HT2.out, HNX.out⟩
            · have hz0 : (x.id.size : Int) ≠ 32 := by omega
              have HF := Lib.hid (check_form HO.out HLG.out (all_no HX.out (show formIn t.ins.length x = false by unfold formIn; rw [decide_eq_false h32, Bool.false_and])))
              go_wp2_with fail
              go_ret
              exact ⟨by rw [HR.out, HF.out]; rfl, HT2.out.bel⟩
          · by_cases h32 : x.id.size = 32
            · have hz0 : (x.id.size : Int) = 32 := by omega
              by_cases hk1 : 1 < k
              · have HF := Lib.hid (check_form HO.out HLG.out (all_no HX.out (show formIn t.ins.length x = false by unfold formIn; rw [decide_eq_true h32, hbs, ← HN.out, decide_eq_true hk1]; rfl)))
                go_wp2_with fail
                go_ret
                exact ⟨by rw [HR.out, HF.out]; rfl, HT2.out.bel⟩
              · have HNX := Lib.hid (all_step HALL.out HX.out (by unfold formIn; rw [decide_eq_true h32, hbs, decide_eq_false hk1]; rfl))
                go_wp2_with fail
                go_roundg (k - (q + 1))
                case measure => have := HGQ.out; omega
                case rel => exact ⟨q + 1, rfl, by omega, by go_num, HT2.out, HNX.out⟩
            · have hz0 : (x.id.size : Int) ≠ 32 := by omega
              have HF := Lib.hid (check_form HO.out HLG.out (all_no HX.out (show formIn t.ins.length x = false by unfold formIn; rw [decide_eq_false h32, Bool.false_and])))
              go_wp2_with fail
              go_ret
              exact ⟨by rw [HR.out, HF.out]; rfl, HT2.out.bel⟩
        · obtain rfl : q = k := by omega
          have HFO := Lib.hid (show formedOf t = true by unfold formedOf; rw [← HN.out]; exact all_yes HN.out HALL.out)
          clear HALL HGQ hlt hq
          obtain ⟨ps, hps⟩ : ∃ ps, ps = ptsOf t := ⟨_, rfl⟩
          have hpsl : ∀ (j : Nat) (z : PIn), t.ins[j]? = some z → ps[j]? = some (z.id, z.idx) := fun j z hz => by rw [hps]; unfold ptsOf; rw [List.getElem?_map, hz]; rfl
          have HPL := Lib.hid hpsl
          have HPS := Lib.hid hps
          clear hpsl hps
          go_wp2_with fail
          go_loopg [7] q (fun g i wr => ∃ (k : Nat), g = q - k ∧ k ≤ q ∧ i = .int .i64 k ∧ TB w (.slice a q c) (.slice a' n' c') t wr ∧ (ps.take k).Nodup)
          case atStart => exact ⟨0, rfl, by omega, rfl, HTB.out, List.nodup_nil⟩
          case round =>
            clear HTB c1
            rename World => wq
            obtain ⟨k, hgk, hk, rfl, htb, hnd⟩ := hrel
            have HGK := Lib.hid hgk
            have HND := Lib.hid hnd
            have HTB := Lib.hid htb
            have c1 : wq.cell? ⟨w.heap.size, 1, none⟩ = some (.slice a q c) := cell_at htb.box
            clear hgk hnd htb
            by_cases hlt : k < q
            · obtain ⟨b, o, x, wv, rfl, hx, -, hidx, hid, hwv, -, -, -, -⟩ := HTB.out.ins.inp hlt
              have HX := Lib.hid hx
              clear hx hwv
              go_wp2_with fail
              go_loopg [8] k (fun g i wr => ∃ (j : Nat), g = k - j ∧ j ≤ k ∧ i = .int .i64 j ∧ TB w (.slice (some ⟨b, o, none⟩) q c) (.slice a' n' c') t wr ∧ ∀ (l : Nat) (z : Pt), l < j → ps[l]? = some z → z ≠ (x.id, x.idx))
              case atStart => exact ⟨0, rfl, by omega, rfl, HTB.out, fun l z hl => absurd hl (Nat.not_lt_zero _)⟩
              case round =>
                clear HTB c1
                rename World => wr
                obtain ⟨j, hgj, hj, rfl, htb, hall⟩ := hrel
                have HGJ := Lib.hid hgj
                have HALL := Lib.hid hall
                have HTB := Lib.hid htb
                have c1 : wr.cell? ⟨w.heap.size, 1, none⟩ = some (.slice (some ⟨b, o, none⟩) q c) := cell_at htb.box
                clear hgj hall htb
                by_cases hjk : j < k
                · obtain ⟨b2, o2, x2, wv2, hbo, hx2, -, -, -, -, d0, d1, -, -⟩ := HTB.out.ins.inp hlt
                  obtain ⟨rfl, rfl⟩ : b = b2 ∧ o = o2 := by simpa using hbo
                  obtain rfl : x = x2 := by have h := HX.out; rw [hx2] at h; exact (Option.some.inj h).symm
                  obtain ⟨b2, o2, y, wv2, hbo, hy, -, -, -, -, e0, e1, -, -⟩ := HTB.out.ins.inp (show j < q by omega)
                  obtain ⟨rfl, rfl⟩ : b = b2 ∧ o = o2 := by simpa using hbo
                  have HY := Lib.hid hy
                  clear hbo hx2 hy
                  have hkin : (0 : Int) ≤ (k : Int) := by omega
                  have hkiq : (k : Int) < (q : Int) := by omega
                  have hjin : (0 : Int) ≤ (j : Int) := by omega
                  have hjiq : (j : Int) < (q : Int) := by omega
                  by_cases hid1 : x.id = y.id
                  · rw [← hid1] at e0
                    by_cases hix : x.idx = y.idx
                    · rw [← hix] at e1
                      have HF := Lib.hid (check_dup HO.out HLG.out HFO.out (dup_yes (by
                        rw [← HPS.out]
                        refine nodup_not (HPL.out _ _ HX.out) ?_
                        have h1 := HPL.out _ _ HY.out
                        rw [← hid1, ← hix] at h1
                        exact List.mem_of_getElem? (i := j) (by rw [List.getElem?_take, if_pos hjk]; exact h1))))
                      go_wp2_with fail
                      go_quiet (fail)
                      have HTZ := Lib.hid (HTB.out.next (w' := wr.drewN nq) ⟨rfl, rfl, rfl, Nat.le_refl _, fun _ _ => rfl⟩)
                      go_wp2_with fail
                      go_ret
                      exact ⟨by rw [HR.out, HF.out]; rfl, HTZ.out.bel⟩
                    · have hne : (x.idx : Int) ≠ y.idx := by omega
                      have HNX := Lib.hid (ne_step HALL.out (HPL.out _ _ HY.out) (fun h => hix (congrArg Prod.snd h).symm))
                      go_wp2_with fail
                      go_quiet (fail)
                      have HTZ := Lib.hid (HTB.out.next (w' := wr.drewN nq) ⟨rfl, rfl, rfl, Nat.le_refl _, fun _ _ => rfl⟩)
                      go_wp2_with fail
                      go_roundg (k - (j + 1))
                      case measure => have := HGJ.out; omega
                      case rel => exact ⟨j + 1, rfl, by omega, by go_num, HTZ.out, HNX.out⟩
                  · have hbe : (x.id.toList == y.id.toList) = false := by
                      rw [ByteArray.toList_eq, ByteArray.toList_eq, beq_eq_false_iff_ne]
                      intro h
                      exact hid1 (by cases hx : x.id; cases hy : y.id; rw [hx, hy] at h; simp at h; rw [h])
                    have HNX := Lib.hid (ne_step HALL.out (HPL.out _ _ HY.out) (fun h => hid1 (congrArg Prod.fst h).symm))
                    go_wp2_with fail
                    go_quiet (fail)
                    have HTZ := Lib.hid (HTB.out.next (w' := wr.drewN nq) ⟨rfl, rfl, rfl, Nat.le_refl _, fun _ _ => rfl⟩)
                    go_wp2_with fail
                    go_roundg (k - (j + 1))
                    case measure => have := HGJ.out; omega
                    case rel => exact ⟨j + 1, rfl, by omega, by go_num, HTZ.out, HNX.out⟩
                · obtain rfl : j = k := by omega
                  have HNX := Lib.hid (nodup_step HND.out (HPL.out _ _ HX.out) (ne_mem HALL.out))
                  go_wp2_with fail
                  go_roundg (q - (j + 1))
                  case measure => have := HGK.out; omega
                  case rel => exact ⟨j + 1, rfl, by omega, by go_num, HTB.out, HNX.out⟩
            · obtain rfl : k = q := by omega
              have hpl : ps.take k = ps := List.take_of_length_le (by rw [HPS.out, HN.out]; unfold ptsOf; rw [List.length_map]; exact Nat.le_refl _)
              have HD := Lib.hid (show dup (ptsOf t) = false by rw [← HPS.out]; exact dup_no (hpl ▸ HND.out))
              have HF := Lib.hid (check_sum HO.out HLG.out HFO.out HD.out)
              have c0 : wq.cell? ⟨w.heap.size, 0, none⟩ = some (.int .u32 t.ver) := cell_at HTB.out.box
              have c2 : wq.cell? ⟨w.heap.size, 2, none⟩ = some (.slice a' n' c') := cell_at HTB.out.box
              have c3 : wq.cell? ⟨w.heap.size, 3, none⟩ = some (.int .u32 t.lock) := cell_at HTB.out.box
              clear hpl
              go_wp2_with fail
              refine (rtotal_any _ t wq (HTB.out.tx HV.out) HL.out).mono ?_
              rintro e w5 ⟨rfl, hb⟩
              have HT5 := Lib.hid (HTB.out.next hb)
              have HSM := Lib.hid (show sumOf t = sumA 0 (t.outs.map (·.val)) from rfl)
              rw [← HSM.out]
              generalize sumOf t = sm at *
              clear hb
              go_wp2_with fail
              go_ret
              exact ⟨by rw [HR.out, HF.out]; rfl, HT5.out.bel⟩
end Go.Proofs.YtaooibocknemkaaGreat
end

section
namespace Go.Proofs.YtaooibocknemkaaGreat
open Go.RowKit Go.BigFrame
set_option linter.unusedVariables false
set_option linter.unusedSimpArgs false

structure Whole (t : PTx) : Prop where
  counts : countsOf t = true
  long : longOf t = false
  formed : formedOf t = true
  dup : dup (ptsOf t) = false
  sum : (sumOf t).2 = 0
theorem whole_of {t : PTx} (h : checkOf t = 0) : Whole t := by
  cases h1 : countsOf t
  · rw [check_counts h1] at h; exact absurd h (by decide)
  cases h2 : longOf t
  rotate_left
  · rw [check_long h1 h2] at h; exact absurd h (by decide)
  cases h3 : formedOf t
  · rw [check_form h1 h2 h3] at h; exact absurd h (by decide)
  cases h4 : dup (ptsOf t)
  rotate_left
  · rw [check_dup h1 h2 h3 h4] at h; exact absurd h (by decide)
  rw [check_sum h1 h2 h3 h4] at h
  exact ⟨h1, h2, h3, h4, h⟩
theorem counts_parts {t : PTx} (h : countsOf t = true) : (1 ≤ t.ins.length ∧ t.ins.length ≤ 256 ∧ 1 ≤ t.outs.length ∧ t.outs.length ≤ 256) ∧ (t.ins.any fun x => decide (4 < x.wit.length)) = false := by
  unfold countsOf at h
  simp only [Bool.and_eq_true, decide_eq_true_eq, Bool.not_eq_true'] at h
  exact ⟨⟨h.1.1.1, h.1.1.2, h.1.2.1, h.1.2.2⟩, h.2⟩
theorem long_parts {t : PTx} (h : longOf t = false) : (t.outs.any fun x => decide (40 < x.script.size)) = false ∧ t.ins.any longIn = false := by
  unfold longOf at h
  exact Bool.or_eq_false_iff.1 h
theorem formed_parts {t : PTx} (h : formedOf t = true) : ∀ x ∈ t.ins, x.id.size = 32 ∧ (isBase x.id x.idx = true → t.ins.length ≤ 1) := by
  intro x hx
  unfold formedOf at h
  have h1 := List.all_eq_true.1 h x hx
  unfold formIn at h1
  simp only [Bool.and_eq_true, decide_eq_true_eq, Bool.not_eq_true', Bool.and_eq_false_iff, decide_eq_false_iff_not] at h1
  refine ⟨h1.1, fun hb => ?_⟩
  rcases h1.2 with h2 | h2
  · rw [hb] at h2; cases h2
  · omega
end Go.Proofs.YtaooibocknemkaaGreat
end

section
namespace Go.Proofs.YtaooibocknemkaaGreat
open Go.RowKit
set_option linter.unusedVariables false

theorem info_u8 : (Tryz.prog.info? 5).map (fun i => (i.zero, i.size, i.bytes)) = some (some (.int .u8 0), 1, 1) := by kernel_rfl

/-- The lowest bytes of a number. -/
def leB (n : Nat) : Nat → List UInt8
  | 0 => []
  | k + 1 => leB n k ++ [UInt8.ofNat (n / 256 ^ k)]
theorem u8_mod (m : Nat) : ((UInt8.ofNat m).toNat : Int) = (m : Int) % 256 := by simp
theorem leB_length (n k : Nat) : (leB n k).length = k := by induction k with | zero => rfl | succ k ih => simp [leB, ih]
def okSize (k : Nat) : Prop := k = 1 ∨ k = 2 ∨ k = 4 ∨ k = 8

/-- The first place of a number in a list, or -1. -/
def idxI (xs : List Int) (x : Int) : Int := match xs.findIdx? (fun y => x == y) with | some i => i | none => -1

set_option maxHeartbeats 400000 in
theorem index_any (b o c n : Nat) (xs : List Int) (x : Int) (w : World) (hn : xs.length = n) (hn2 : n ≤ 9223372036854775807) (hc : ∀ i, i < n → w.cell? ⟨b, o + i, none⟩ = some (.int .i64 (xs.getD i 0))) :
    Calls Tryz.prog 129 #[.slice (some ⟨b, o, none⟩) n c, .int .i64 x] w fun e w' => e = .returned (.int .i64 (idxI xs x)) ∧ w = w' := by
  go_enter Tryz.func129, Tryz.ntmps129
  have HN := Lib.hid hn
  clear hn
  go_wp2
  go_loop [8] (fun i => ∃ j : Nat, j ≤ n ∧ i = .int .i64 j ∧ ∀ t, t < j → (x == xs.getD t 0) = false) (fun i => n - (intOf i).toNat)
  case atStart => exact ⟨0, Nat.zero_le _, rfl, fun t ht => absurd ht (Nat.not_lt_zero _)⟩
  case round =>
    obtain ⟨j, hj, rfl, hno⟩ := hrel
    have HNO := Lib.hid hno
    clear hno
    by_cases hlt : j < n
    · have hcell := hc j hlt
      have HC := Lib.hid hc
      clear hc
      generalize hy : xs.getD j 0 = y at *
      have HY := Lib.hid hy
      clear hy
      cases hxy : (x == y)
      · go_wp2
        go_round
        case rel =>
          refine ⟨j + 1, by omega, by go_num, fun t ht => ?_⟩
          rcases Nat.lt_or_ge t j with h | h
          · exact HNO.out t h
          · rw [show t = j by omega, HY.out]; exact hxy
        case measure => simp [intOf]; omega
      · go_wp2
        go_ret
        refine ⟨ret_int ?_, rfl⟩
        have hjl : j < xs.length := by rw [HN.out]; exact hlt
        have hgd : ∀ t, (h : t < xs.length) → xs.getD t 0 = xs[t] := fun t h => by simp [List.getD, h]
        have : xs.findIdx? (fun y => x == y) = some j := by
          rw [List.findIdx?_eq_some_iff_getElem]
          refine ⟨hjl, ?_, fun t ht => ?_⟩
          · rw [← hgd j hjl, HY.out]; exact hxy
          · rw [← hgd t (by omega)]; simpa using HNO.out t ht
        unfold idxI
        rw [this]
    · clear hc
      go_wp2
      go_ret
      refine ⟨ret_int ?_, rfl⟩
      have hgd : ∀ t, (h : t < xs.length) → xs.getD t 0 = xs[t] := fun t h => by simp [List.getD, h]
      have : xs.findIdx? (fun y => x == y) = none := by
        rw [List.findIdx?_eq_none_iff]
        intro y hy
        obtain ⟨t, ht, rfl⟩ := List.getElem_of_mem hy
        rw [← hgd t ht]
        exact HNO.out t (by have := HN.out; omega)
      unfold idxI
      rw [this]

theorem idx_sizes (k : Int) : decide (0 ≤ idxI [1, 2, 4, 8] k) = (k == 1 || k == 2 || k == 4 || k == 8) := by
  unfold idxI
  simp only [List.findIdx?_cons, List.findIdx?_nil]
  by_cases h1 : k = 1
  · subst h1; rfl
  by_cases h2 : k = 2
  · subst h2; rfl
  by_cases h4 : k = 4
  · subst h4; rfl
  by_cases h8 : k = 8
  · subst h8; rfl
  · simp [h1, h2, h4, h8]

set_option maxHeartbeats 400000 in
theorem contains_any (b o c n : Nat) (xs : List Int) (x : Int) (w : World) (hn : xs.length = n) (hn2 : n ≤ 9223372036854775807) (hc : ∀ i, i < n → w.cell? ⟨b, o + i, none⟩ = some (.int .i64 (xs.getD i 0))) :
    Calls Tryz.prog 98 #[.slice (some ⟨b, o, none⟩) n c, .int .i64 x] w fun e w' => e = .returned (.bool (decide (0 ≤ idxI xs x))) ∧ w = w' := by
  have hi := index_any b o c n xs x w hn hn2 hc
  have HI := Lib.hid hi
  clear hi hc hn
  go_enter Tryz.func98, Tryz.ntmps98
  go_wp2_with (go_at_call 129; refine HI.out.mono ?_; rintro e w' ⟨rfl, rfl⟩)
  go_ret
  exact ⟨rfl, rfl⟩

set_option maxHeartbeats 400000 in
theorem known_any (k : Int) (w : World) : Calls Tryz.prog 72 #[.int .i64 k] w fun e w' => e = .returned (.bool (k == 1 || k == 2 || k == 4 || k == 8)) ∧ Below w.heap.size w w' := by
  rw [← idx_sizes]
  have h0 : ∀ i, i < 4 → (w.alloc (.cells #[.int .i64 1, .int .i64 2, .int .i64 4, .int .i64 8] 3)).cell? ⟨w.heap.size, 0 + i, none⟩ = some (.int .i64 ([1, 2, 4, 8].getD i 0)) := by
    intro i hi
    rw [cell_at (heap_alloc_new w _)]
    match i, hi with
    | 0, _ => rfl
    | 1, _ => rfl
    | 2, _ => rfl
    | 3, _ => rfl
  have HI := Lib.hid (contains_any w.heap.size 0 4 4 [1, 2, 4, 8] k _ rfl (by omega) h0)
  clear h0
  go_enter Tryz.func72, Tryz.ntmps72
  go_wp2_with (go_at_call 98; refine HI.out.mono ?_; rintro e w' ⟨rfl, rfl⟩)
  go_ret
  exact ⟨rfl, (Below.refl _ _).alloc (Nat.le_refl _) _⟩

theorem known_yes {k : Nat} (hk : okSize k) (w : World) : Calls Tryz.prog 72 #[.int .i64 k] w fun e w' => e = .returned (.bool true) ∧ Below w.heap.size w w' := by
  refine (known_any k w).mono fun e w' ⟨h1, h2⟩ => ⟨?_, h2⟩
  rw [h1]
  rcases hk with rfl | rfl | rfl | rfl <;> rfl

set_option maxRecDepth 100000 in
set_option maxHeartbeats 400000 in
theorem put_any (n k : Nat) (hn : n < 18446744073709551616) (hk : okSize k) (w : World) :
    Calls Tryz.prog 41 #[.int .u64 n, .int .i64 k] w fun e w' => e = .returned (.string ⟨(leB n k).toArray⟩) ∧ Below w.heap.size w w' := by
  have hkn := known_yes hk w
  have hk8 : k ≤ 8 := by unfold okSize at hk; omega
  clear hk
  go_enter Tryz.func41, Tryz.ntmps41
  go_wp2_with fail
  refine hkn.mono ?_
  rintro e w1 ⟨rfl, hb1⟩
  have hB := hb1.size
  clear hkn
  obtain ⟨B, hBe⟩ : ∃ B, B = w.heap.size := ⟨_, rfl⟩
  rw [← hBe] at hb1 hB
  have HB := Lib.hid hBe
  clear hBe
  go_wp2_with fail
  obtain ⟨i0, hi, hz0, hz1, hz2⟩ := info_parts info_u8
  go_loopw [0, 5, 10] (fun m v i wr => ∃ j : Nat, j ≤ k ∧ i = .int .i64 j ∧ m = .int .u64 (n / 256 ^ j : Nat) ∧ Below B w wr ∧ wr.ownsRow B 5 1 v j (bytesOf (leB n j))) (fun _ _ i _ => k - (intOf i).toNat)
  case atStart => exact ⟨0, Nat.zero_le _, rfl, by simp, hb1, World.ownsRow_nil _ _ _ _⟩
  case round =>
    obtain ⟨j, hj, rfl, rfl, hbw, hown⟩ := hrel
    have hsz := hbw.size
    have hpow : n / 256 ^ j < 18446744073709551616 := Nat.lt_of_le_of_lt (Nat.div_le_self _ _) hn
    by_cases hlt : j < k
    · obtain ⟨a', c', w', hrun, hown', hbw', -⟩ := append_el (P := Tryz.prog) (t := 99) (ty := 99) Tryz.underlying99 hi hz0 hz1 hz2 rfl hown #[.int .u8 (((n / 256 ^ j : Nat) : Int) % 256)] rfl (by simp [Value.oneCell']) (by rw [maxLen_eq]; omega) (by omega) (by have := HB.out; omega)
      have HP := Lib.hid hpow
      have HR := Lib.hid hrun
      have HO := Lib.hid hown'
      have HBW := Lib.hid hbw'
      have hdd : n / 256 ^ j / 256 = n / 256 ^ (j + 1) := by rw [Nat.div_div_eq_div_mul, ← Nat.pow_succ]
      have HDD := Lib.hid hdd
      have hu8 := u8_mod (n / 256 ^ j)
      have HU := Lib.hid hu8
      have hlb : leB n (j + 1) = leB n j ++ [UInt8.ofNat (n / 256 ^ j)] := rfl
      have HLB := Lib.hid hlb
      clear hrun hown' hbw' hpow hn hdd hu8 hlb
      generalize n / 256 ^ j = m at *
      go_wp2_with (at_builtin; refine wpList_append_run rfl (.tmp 12) (.tmp 15) 99 99 rfl rfl rfl HR.out ?_)
      go_roundw
      case rel =>
        refine ⟨j + 1, by omega, by go_num, by rw [← HDD.out]; simp, hbw.trans HBW.out, ?_⟩
        have h := HO.out
        rw [← HU.out] at h
        rw [HLB.out, bytesOf_append]
        exact h
      case measure => simp [intOf]; omega
    · have hje : j = k := by omega
      subst hje
      obtain ⟨a5, c5, rfl, -, -⟩ := ownsRow_shape hown
      have hconv := convert_bytes hown
      go_wp2
      go_ret
      exact ⟨rfl, by rw [← HB.out]; exact hbw⟩

theorem u64_half {m : Nat} (h : m < 18446744073709551616) : Value.int .u64 (IntKind.u64.wrap ((m : Int) / 256)) = .int .u64 ((m / 256 : Nat) : Int) := by
  congr 1
  rw [IntWalk.u64_in _ (by omega)]
  omega
theorem mk_one (l : List UInt8) (b : UInt8) : ByteArray.mk l.toArray ++ ByteArray.mk #[b] = ⟨(l ++ [b]).toArray⟩ := mk_mk l [b]
theorem one_byte (w : World) (m : Nat) : (convert 99 9 (.slice (some ⟨w.heap.size, 0, none⟩) 1 1)).run Tryz.prog (w.alloc (.cells #[.int .u8 ((m : Int) % 256)] 5)) =
    .ok (.string ⟨#[UInt8.ofNat m]⟩) (w.alloc (.cells #[.int .u8 ((m : Int) % 256)] 5)) := by
  have h : (w.alloc (.cells #[.int .u8 ((m : Int) % 256)] 5)).ownsRow 0 5 1 (.slice (some ⟨w.heap.size, 0, none⟩) 1 1) 1 (bytesOf [UInt8.ofNat m]) := by
    refine ⟨rfl, .inr ⟨w.heap.size, 1, _, rfl, Nat.zero_le _, heap_alloc_new w _, Nat.le_refl _, by rw [maxLen_eq]; omega, rfl, ?_⟩⟩
    simp [bytesOf]
  exact convert_bytes h

/-- The number that lies in some bytes. -/
def leN : List UInt8 → Nat
  | [] => 0
  | b :: r => b.toNat + 256 * leN r

/-- The number that lies at a place of a text. -/
def getN (s : ByteArray) (at_ k : Nat) : Nat := leN ((s.data.toList.drop at_).take k)

set_option maxRecDepth 100000 in
set_option maxHeartbeats 400000 in
theorem rput_any (n k : Nat) (hn : n < 18446744073709551616) (hk : okSize k) (w : World) :
    Calls Tryz.prog 50 #[.int .u64 n, .int .i64 k] w fun e w' => e = .returned (.string ⟨(leB n k).toArray⟩) ∧ Below w.heap.size w w' := by
  have hk8 : k ≤ 8 := by unfold okSize at hk; omega
  obtain ⟨B, hBe⟩ : ∃ B, B = w.heap.size := ⟨_, rfl⟩
  have HB := Lib.hid hBe
  have hb1 : Below B w w := Below.refl _ _
  clear hBe
  obtain ⟨i0, hi, hz0, hz1, hz2⟩ := info_parts info_u8
  have key : ∀ K : Nat, K = k → K ≤ 8 → (((K : Int) != 1) = false ∨ (((K : Int) != 1) = true ∧ ((K : Int) != 2) = false) ∨ (((K : Int) != 1) = true ∧ ((K : Int) != 2) = true ∧ ((K : Int) != 4) = false) ∨ (((K : Int) != 1) = true ∧ ((K : Int) != 2) = true ∧ ((K : Int) != 4) = true ∧ ((K : Int) != 8) = false)) := by
    rintro K rfl _
    rcases hk with rfl | rfl | rfl | rfl <;> decide
  have hq := key k rfl hk8
  clear key hk
  rcases hq with h1 | ⟨h1, h2⟩ | ⟨h1, h2, h3⟩ | ⟨h1, h2, h3, h4⟩
  all_goals
    go_enter Tryz.func50, Tryz.ntmps50
    go_wp2_with fail
    go_loopw [0, 5, 6] (fun m v i wr => ∃ j : Nat, j ≤ k ∧ i = .int .i64 j ∧ m = .int .u64 (n / 256 ^ j : Nat) ∧ Below B w wr ∧ v = .string ⟨(leB n j).toArray⟩) (fun _ _ i _ => k - (intOf i).toNat)
    case atStart => exact ⟨0, Nat.zero_le _, rfl, by simp, hb1, rfl⟩
    case round =>
      obtain ⟨j, hj, rfl, rfl, hbw, rfl⟩ := hrel
      have hsz := hbw.size
      have hpow : n / 256 ^ j < 18446744073709551616 := Nat.lt_of_le_of_lt (Nat.div_le_self _ _) hn
      by_cases hlt : j < k
      · have hone := one_byte wr (n / 256 ^ j)
        have hdd : n / 256 ^ j / 256 = n / 256 ^ (j + 1) := by rw [Nat.div_div_eq_div_mul, ← Nat.pow_succ]
        have HDD := Lib.hid hdd
        have hlb : leB n (j + 1) = leB n j ++ [UInt8.ofNat (n / 256 ^ j)] := rfl
        have HLB := Lib.hid hlb
        have HP := Lib.hid hpow
        have hll : ((leB n j).length : Int) ≤ 8 := by rw [leB_length]; omega
        clear hdd hlb hpow hn
        generalize n / 256 ^ j = m at *
        go_wp2
        go_roundw
        case rel => exact ⟨j + 1, by omega, by go_num, by rw [← HDD.out]; exact u64_half HP.out, hbw.alloc (by have := HB.out; omega) _, by rw [HLB.out, mk_one]⟩
        case measure => simp [intOf]; omega
      · have hje : j = k := by omega
        subst hje
        go_wp2
        go_ret
        exact ⟨rfl, by rw [← HB.out]; exact hbw⟩

theorem leN_lt (l : List UInt8) : leN l < 256 ^ l.length := by
  induction l with
  | nil => simp [leN]
  | cons b r ih =>
    simp only [leN, List.length_cons, Nat.pow_succ]
    have := b.toNat_lt
    omega

/-- The bytes from a place on. -/
def part (s : ByteArray) (i k : Nat) : List UInt8 := (s.data.toList.drop i).take k
theorem part_step {s : ByteArray} {i k : Nat} (h : i < s.size) : part s i (k + 1) = s.data.toList[i]'(by simpa using h) :: part s (i + 1) k := by
  unfold part
  rw [List.drop_eq_getElem_cons (by simpa using h), List.take_succ_cons]
theorem part_len {s : ByteArray} {i k : Nat} (h : i + k ≤ s.size) : (part s i k).length = k := by
  unfold part
  rw [List.length_take, List.length_drop, data_len]
  omega

theorem byte_eq {s : ByteArray} {i j : Nat} {hi : i < s.size} {hj : j < s.data.toList.length} (h : i = j) : s[i]'hi = s.data.toList[j]'hj := by subst h; rfl
theorem or_step {m b : Nat} (hm : m < 72057594037927936) (hb : b < 256) : Value.int .u64 (bits .or .u64 (IntKind.u64.wrap ((m : Int) * 256)) (IntKind.u64.wrap (b : Int))) = .int .u64 ((b + 256 * m : Nat) : Int) := by
  rw [IntWalk.u64_in _ (by omega), IntWalk.u64_in _ (by omega), show (m : Int) * 256 = ((2 ^ 8 * m : Nat) : Int) by omega, bits_or_u64_nat _ _ (by omega) (by omega), ← Nat.two_pow_add_eq_or_of_lt (by omega)]
  congr 2
  omega

set_option maxRecDepth 100000 in
set_option maxHeartbeats 400000 in
theorem get_no (s : ByteArray) (p : Int) (k : Nat) (hk : okSize k) (hs : s.size ≤ 9223372036854775807) (h : p < 0 ∨ (s.size : Int) - k < p) (w : World) :
    Calls Tryz.prog 84 #[.string s, .int .i64 p, .int .i64 k] w fun e w' => e = .returned (.tuple #[.int .u64 0, .bool false]) ∧ Below w.heap.size w w' := by
  have hkn := known_yes hk w
  have hk8 : k ≤ 8 := by unfold okSize at hk; omega
  clear hk
  go_enter Tryz.func84, Tryz.ntmps84
  by_cases hp : p < 0
  · clear h
    go_wp2_with (go_at_call 72; refine hkn.mono ?_; rintro e w1 ⟨rfl, hb1⟩)
    go_ret2
    exact ⟨rfl, hb1⟩
  · have h' : (s.size : Int) - k < p := by omega
    clear h
    go_wp2_with (go_at_call 72; refine hkn.mono ?_; rintro e w1 ⟨rfl, hb1⟩)
    go_ret2
    exact ⟨rfl, hb1⟩

set_option maxRecDepth 100000 in
set_option maxHeartbeats 400000 in
theorem get_yes (s : ByteArray) (p k : Nat) (hk : okSize k) (hs : s.size ≤ 9223372036854775807) (h : p + k ≤ s.size) (w : World) :
    Calls Tryz.prog 84 #[.string s, .int .i64 p, .int .i64 k] w fun e w' => e = .returned (.tuple #[.int .u64 (getN s p k), .bool true]) ∧ Below w.heap.size w w' := by
  have hkn := known_yes hk w
  have hk8 : k ≤ 8 := by unfold okSize at hk; omega
  have hk0 : 1 ≤ k := by unfold okSize at hk; omega
  clear hk
  have HKN := Lib.hid hkn
  clear hkn
  go_enter Tryz.func84, Tryz.ntmps84
  go_wp2_with fail
  refine HKN.out.mono ?_
  rintro e w1 ⟨rfl, hb1⟩
  have HB := Lib.hid hb1
  clear hb1
  go_wp2_with fail
  go_loop [8, 9] (fun n i => ∃ j : Nat, j ≤ k ∧ i = .int .i64 ((p : Int) + k - 1 - j) ∧ n = .int .u64 (leN (part s (p + k - j) j) : Nat)) (fun _ i => (intOf i + 1 - p).toNat)
  case atStart => exact ⟨0, Nat.zero_le _, by simp, by simp [part, leN]⟩
  case round =>
    obtain ⟨j, hj, rfl, rfl⟩ := hrel
    by_cases hlt : j < k
    · have hps := part_step (s := s) (i := p + k - (j + 1)) (k := j) (by omega)
      have hpl := leN_lt (part s (p + k - j) j)
      rw [part_len (by omega)] at hpl
      rw [show p + k - (j + 1) + 1 = p + k - j by omega] at hps
      have HPS := Lib.hid hps
      have HPL := Lib.hid hpl
      clear hps hpl
      generalize hm : leN (part s (p + k - j) j) = m at *
      have HM := Lib.hid hm
      clear hm
      have hge : (p : Int) ≤ p + k - 1 - j := by omega
      go_wp2
      go_round
      case rel =>
        have h256 : (256 : Nat) ^ j ≤ 256 ^ 7 := Nat.pow_le_pow_right (by omega) (by omega)
        have hmm := HPL.out
        refine ⟨j + 1, by omega, by congr 1; omega, ?_⟩
        rw [HPS.out, or_step (by omega) (UInt8.toNat_lt _)]
        simp only [leN]
        rw [HM.out]
        congr 3
        exact congrArg UInt8.toNat (byte_eq (by omega))
      case measure => simp [intOf]; omega
    · have hje : j = k := by omega
      subst hje
      have hlt' : ((p : Int) + j - 1 - j) < p := by omega
      go_wp2
      go_ret2
      exact ⟨rfl, HB.out⟩

theorem leN_append (l : List UInt8) (b : UInt8) : leN (l ++ [b]) = leN l + b.toNat * 256 ^ l.length := by
  induction l with
  | nil => simp [leN]
  | cons a r ih => simp only [List.cons_append, leN, ih, List.length_cons, Nat.pow_succ, Nat.mul_add]; rw [Nat.mul_left_comm 256, Nat.mul_comm (256 ^ r.length) 256]; omega
end Go.Proofs.YtaooibocknemkaaGreat
end

section
namespace Go.Proofs.YtaooibocknemkaaGreat
open Go.RowKit Go.BigFrame
set_option linter.unusedVariables false
set_option linter.unusedSimpArgs false

def bL (l : List UInt8) : ByteArray := ⟨l.toArray⟩
theorem bL_size (l : List UInt8) : (bL l).size = l.length := mk_size l
theorem bL_app (l m : List UInt8) : bL l ++ bL m = bL (l ++ m) := mk_mk l m
theorem bL_data (s : ByteArray) : bL s.data.toList = s := mk_data s
theorem bL_list (l : List UInt8) : (bL l).data.toList = l := by simp [bL]
def vintL (n : Nat) : List UInt8 := if n < 253 then leB n 1 else if n < 65536 then leB 253 1 ++ leB n 2 else if n < 4294967296 then leB 254 1 ++ leB n 4 else leB 255 1 ++ leB n 8
theorem vintL_le (n : Nat) : (vintL n).length ≤ 9 := by
  unfold vintL
  split
  · rw [leB_length]; omega
  · split
    · rw [List.length_append, leB_length, leB_length]; omega
    · split
      · rw [List.length_append, leB_length, leB_length]; omega
      · rw [List.length_append, leB_length, leB_length]; omega
def sizedL (s : ByteArray) : List UInt8 := vintL s.size ++ s.data.toList
def inB (x : PIn) : List UInt8 := x.id.data.toList ++ leB x.idx 4 ++ vintL 0 ++ leB x.seq 4
def outB (x : POut) : List UInt8 := leB x.val.toNat 8 ++ sizedL x.script
def witB (x : PIn) : List UInt8 := vintL x.wit.length ++ x.wit.flatMap sizedL
def markL (b : Bool) : List UInt8 := if b then [0, 1] else []
def witsL (b : Bool) (l : List PIn) : List UInt8 := if b then l.flatMap witB else []
def encL (t : PTx) (b : Bool) : List UInt8 := leB t.ver 4 ++ markL b ++ vintL t.ins.length ++ t.ins.flatMap inB ++ vintL t.outs.length ++ t.outs.flatMap outB ++ witsL b t.ins ++ leB t.lock 4
def witOf (t : PTx) : Bool := t.ins.any fun x => decide (0 < x.wit.length)

/-- What is known of a transaction that may be. -/
structure Enc (t : PTx) : Prop where
  ins : t.ins.length ≤ 256
  outs : t.outs.length ≤ 256
  ids : ∀ x ∈ t.ins, x.id.size = 32 ∧ x.wit.length ≤ 4 ∧ ∀ s ∈ x.wit, s.size ≤ 80
  vals : ∀ x ∈ t.outs, (0 ≤ x.val ∧ x.val ≤ 2100000000000000) ∧ x.script.size ≤ 40
theorem sum_good : ∀ (l : List Int) (s : Int), (sumA s l).2 = 0 → ∀ a ∈ l, 0 ≤ a ∧ a ≤ 2100000000000000
  | [], s, h, a, ha => by simp at ha
  | b :: r, s, h, a, ha => by
    rw [sumA] at h
    by_cases hg : (goodA b && goodA (s + b)) = true
    · rw [if_pos hg] at h
      rcases List.mem_cons.1 ha with rfl | ha
      · exact (goodA_iff a).1 (Bool.and_eq_true _ _ ▸ hg).1
      · exact sum_good r (s + b) h a ha
    · rw [if_neg hg] at h
      exact absurd h (by decide)
theorem enc_of {t : PTx} (h : Whole t) : Enc t := by
  obtain ⟨hc, hw⟩ := counts_parts h.counts
  obtain ⟨hl1, hl2⟩ := long_parts h.long
  have hf := formed_parts h.formed
  refine ⟨hc.2.1, hc.2.2.2, fun x hx => ⟨(hf x hx).1, ?_, fun s hs => ?_⟩, fun x hx => ⟨?_, ?_⟩⟩
  · have := List.any_eq_false.1 hw x hx
    simpa using this
  · have h1 := List.any_eq_false.1 hl2 x hx
    unfold longIn at h1
    rw [Bool.not_eq_true, List.any_eq_false] at h1
    have h2 := h1 s hs
    simpa using h2
  · exact sum_good _ 0 h.sum x.val (List.mem_map.2 ⟨x, hx, rfl⟩)
  · have := List.any_eq_false.1 hl1 x hx
    simpa using this
theorem flat_le {α : Type} (f : α → List UInt8) (c : Nat) : ∀ (l : List α), (∀ x ∈ l, (f x).length ≤ c) → (l.flatMap f).length ≤ l.length * c
  | [], _ => by simp
  | x :: r, h => by
    rw [List.flatMap_cons, List.length_append, List.length_cons, Nat.add_mul]
    have h1 := h x (List.mem_cons_self ..)
    have h2 := flat_le f c r fun y hy => h y (List.mem_cons_of_mem _ hy)
    omega
theorem inB_le {x : PIn} (h : x.id.size = 32) : (inB x).length ≤ 60 := by
  unfold inB
  have := vintL_le 0
  simp only [List.length_append, leB_length, data_len]
  omega
theorem sizedL_le (s : ByteArray) : (sizedL s).length ≤ 9 + s.size := by
  unfold sizedL
  have := vintL_le s.size
  rw [List.length_append, data_len]
  omega
theorem outB_le {x : POut} (h : x.script.size ≤ 40) : (outB x).length ≤ 60 := by
  unfold outB
  have := sizedL_le x.script
  rw [List.length_append, leB_length]
  omega
theorem witB_le {x : PIn} (h : x.wit.length ≤ 4 ∧ ∀ s ∈ x.wit, s.size ≤ 80) : (witB x).length ≤ 400 := by
  unfold witB
  have h1 := vintL_le x.wit.length
  have h2 := flat_le sizedL 89 x.wit fun s hs => by have := sizedL_le s; have := h.2 s hs; omega
  rw [List.length_append]
  have : x.wit.length * 89 ≤ 356 := by omega
  omega
theorem flat_take {α : Type} (f : α → List UInt8) {l : List α} {k : Nat} {x : α} (h : l[k]? = some x) : (l.take (k + 1)).flatMap f = (l.take k).flatMap f ++ f x := by
  rw [List.take_add_one, h]
  simp
theorem flat_take_le {α : Type} (f : α → List UInt8) (c : Nat) (l : List α) (k : Nat) (h : ∀ x ∈ l, (f x).length ≤ c) : ((l.take k).flatMap f).length ≤ l.length * c := by
  refine Nat.le_trans (flat_le f c _ fun x hx => h x (List.mem_of_mem_take hx)) (Nat.mul_le_mul_right c ?_)
  rw [List.length_take]
  omega
end Go.Proofs.YtaooibocknemkaaGreat
end

section
namespace Go.Proofs.YtaooibocknemkaaGreat
open Go.RowKit Go.BigFrame
set_option linter.unusedVariables false
set_option linter.unusedSimpArgs false

abbrev W32 := BitVec 32
theorem ofInt_nat (x : W32) : BitVec.ofInt 32 (x.toNat : Int) = x := by
  rw [BitVec.ofInt_natCast]; simp
theorem bv_xor (x y : W32) : bits .xor .u32 (x.toNat : Int) (y.toNat : Int) = ((x ^^^ y).toNat : Int) := by
  show IntKind.u32.wrap ((BitVec.ofInt 32 (x.toNat : Int) ^^^ BitVec.ofInt 32 (y.toNat : Int)).toNat : Int) = _
  rw [ofInt_nat, ofInt_nat, IntKind.wrap_u32]
  have := (x ^^^ y).isLt
  omega
theorem bv_and (x y : W32) : bits .and .u32 (x.toNat : Int) (y.toNat : Int) = ((x &&& y).toNat : Int) := by
  show IntKind.u32.wrap ((BitVec.ofInt 32 (x.toNat : Int) &&& BitVec.ofInt 32 (y.toNat : Int)).toNat : Int) = _
  rw [ofInt_nat, ofInt_nat, IntKind.wrap_u32]
  have := (x &&& y).isLt
  omega
theorem bv_or (x y : W32) : bits .or .u32 (x.toNat : Int) (y.toNat : Int) = ((x ||| y).toNat : Int) := by
  show IntKind.u32.wrap ((BitVec.ofInt 32 (x.toNat : Int) ||| BitVec.ofInt 32 (y.toNat : Int)).toNat : Int) = _
  rw [ofInt_nat, ofInt_nat, IntKind.wrap_u32]
  have := (x ||| y).isLt
  omega
theorem bv_add (x y : W32) : ((x.toNat : Int) + (y.toNat : Int)) % 4294967296 = ((x + y).toNat : Int) := by
  rw [BitVec.toNat_add]; omega
theorem bv_shr (x : W32) (n : Nat) : (x.toNat : Int) / 2 ^ n = ((x >>> n).toNat : Int) := by
  rw [BitVec.toNat_ushiftRight, Nat.shiftRight_eq_div_pow]; simp
theorem bv_lt (x : W32) : x.toNat < 4294967296 := x.isLt

/-- A word as a number: nothing looks into it. -/
def nv (x : W32) : Int := (x.toNat : Int)
theorem nv_range (x : W32) : 0 ≤ nv x ∧ nv x ≤ 4294967295 := by have := bv_lt x; unfold nv; omega
@[go_sem] theorem nv_xor (x y : W32) : bits .xor .u32 (nv x) (nv y) = nv (x ^^^ y) := bv_xor x y
@[go_sem] theorem nv_and (x y : W32) : bits .and .u32 (nv x) (nv y) = nv (x &&& y) := bv_and x y
@[go_sem] theorem nv_or (x y : W32) : bits .or .u32 (nv x) (nv y) = nv (x ||| y) := bv_or x y
@[go_sem] theorem nv_add (x y : W32) : (nv x + nv y) % 4294967296 = nv (x + y) := bv_add x y
theorem nv_shr (x : W32) (n : Nat) : nv x / 2 ^ n = nv (x >>> n) := bv_shr x n
theorem bv_not (x : W32) : bits .xor .u32 4294967295 (nv x) = nv (~~~x) := by
  have h : ((4294967295 : W32).toNat : Int) = 4294967295 := by decide
  have := bv_xor 4294967295 x
  rw [h] at this
  unfold nv
  rw [this]
  congr 2
/-- A word as a value. -/
def wv (x : W32) : Value := .int .u32 (nv x)

end Go.Proofs.YtaooibocknemkaaGreat
end

section
namespace Go.Proofs.YtaooibocknemkaaGreat
open Go.RowKit Go.BigFrame
set_option linter.unusedVariables false
set_option linter.unusedSimpArgs false

/-- The eight words of a state. -/
structure St where
  a : W32
  b : W32
  c : W32
  d : W32
  e : W32
  f : W32
  g : W32
  h : W32
def St.val (s : St) : Value := .agg #[.int .u32 (nv s.a), .int .u32 (nv s.b), .int .u32 (nv s.c), .int .u32 (nv s.d), .int .u32 (nv s.e), .int .u32 (nv s.f), .int .u32 (nv s.g), .int .u32 (nv s.h)]
end Go.Proofs.YtaooibocknemkaaGreat
end

section
namespace Go.Proofs.YtaooibocknemkaaGreat
open Go.RowKit Go.BigFrame
set_option linter.unusedVariables false
set_option linter.unusedSimpArgs false

/-- A row of words. -/
def ArrAt (w : World) (b n : Nat) (f : Nat → W32) : Prop := ∃ cs e, w.heap[b]? = some (.cells cs e (0, 0)) ∧ cs.size = n ∧ ∀ i, i < n → cs[i]? = some (.int .u32 (nv (f i)))
def upd (f : Nat → W32) (i : Nat) (x : W32) : Nat → W32 := fun j => if j = i then x else f j
theorem ArrAt.cell {w : World} {b n i : Nat} {f : Nat → W32} (h : ArrAt w b n f) (hi : i < n) : w.cell? ⟨b, i, none⟩ = some (.int .u32 (nv (f i))) := by
  obtain ⟨cs, e, h1, h2, h3⟩ := h
  rw [cell_at h1]; exact h3 i hi
theorem ArrAt.free {w : World} {b n i : Nat} {f : Nat → W32} (h : ArrAt w b n f) : w.frozen? ⟨b, i, none⟩ = false := by
  obtain ⟨cs, e, h1, h2, h3⟩ := h
  exact free_at h1
theorem ArrAt.next {w w' : World} {b n X : Nat} {f : Nat → W32} (h : ArrAt w b n f) (hb : Below X w w') (hX : b < X) : ArrAt w' b n f := by
  obtain ⟨cs, e, h1, h2, h3⟩ := h
  exact ⟨cs, e, (hb.block _ hX).trans h1, h2, h3⟩
theorem ArrAt.lt {w : World} {b n : Nat} {f : Nat → W32} (h : ArrAt w b n f) : b < w.heap.size := by
  obtain ⟨cs, e, h1, h2, h3⟩ := h
  exact (Array.getElem?_eq_some_iff.1 h1).1
theorem ArrAt.set {w : World} {b n i : Nat} {f : Nat → W32} (h : ArrAt w b n f) (x : W32) : ArrAt (w.setCell ⟨b, i, none⟩ (.int .u32 (nv x))) b n (upd f i x) := by
  obtain ⟨cs, e, h1, h2, h3⟩ := h
  refine ⟨_, e, heap_setCell_at h1, by simpa using h2, fun j hj => ?_⟩
  unfold upd
  by_cases hji : j = i
  · subst hji
    rw [if_pos rfl]
    simp [h2, hj]
  · rw [if_neg hji, Array.getElem?_setIfInBounds_ne (Ne.symm hji)]
    exact h3 j hj
theorem ArrAt.same {w : World} {b n : Nat} {f g : Nat → W32} (h : ArrAt w b n f) (he : ∀ i, i < n → f i = g i) : ArrAt w b n g := by
  obtain ⟨cs, e, h1, h2, h3⟩ := h
  exact ⟨cs, e, h1, h2, fun i hi => by rw [h3 i hi, he i hi]⟩
theorem nv_zero : nv 0 = 0 := by decide
/-- The row as one value. -/
def arrV (n : Nat) (f : Nat → W32) : Array Value := ((List.range n).map fun i => Value.int .u32 (nv (f i))).toArray
theorem arrV_size (n : Nat) (f : Nat → W32) : (arrV n f).size = n := by simp [arrV]
theorem ArrAt.load {w : World} {b n : Nat} {f : Nat → W32} {P : Program} (h : ArrAt w b n f) : (loadCellsFrom ⟨b, 0, none⟩ 0 n #[]).run P w = .ok (arrV n f) w := by
  have := run_loadCellsFrom (P := P) w ⟨b, 0, none⟩ (fun i => Value.int .u32 (nv (f i))) n 0 #[] (fun j hj => by
    rw [Addr.add_lit, Nat.zero_add, Nat.zero_add]
    exact h.cell hj)
  rw [this]
  simp [arrV]

theorem ArrAt.heap {w : World} {b n : Nat} {f : Nat → W32} (h : ArrAt w b n f) : ∃ e, w.heap[b]? = some (.cells (arrV n f) e (0, 0)) := by
  obtain ⟨cs, e, h1, h2, h3⟩ := h
  have : cs = arrV n f := by
    apply Array.ext
    · rw [h2, arrV_size]
    · intro i hi1 hi2
      have h4 := h3 i (by omega)
      rw [Array.getElem?_eq_getElem hi1] at h4
      rw [Option.some.inj h4]
      simp [arrV]
  subst this
  exact ⟨e, h1⟩
section
variable {P : Program}
end
theorem ArrAt.row {w : World} {b n : Nat} {f g : Nat → W32} (h : ArrAt w b n g) : ArrAt (w.setRow b (arrV n f)) b n f := by
  obtain ⟨e, he⟩ := h.heap
  exact ⟨_, e, setRow_heap w b _ _ e (0, 0) he, arrV_size n f, fun i hi => by simp [arrV, hi]⟩

/-- The call's two rows. -/
structure SW (w : World) (f : Nat → W32) (wr : World) : Prop where
  bel : Below w.heap.size w wr
  res : ArrAt wr w.heap.size 64 (fun _ => 0)
  row : ArrAt wr (w.heap.size + 1) 64 f
theorem arr_rep {w : World} {b n : Nat} {e : TypeId} (h : w.heap[b]? = some (.cells (Array.replicate n (.int .u32 0)) e (0, 0))) : ArrAt w b n (fun _ => 0) :=
  ⟨_, e, h, by simp, fun i hi => by rw [nv_zero]; simp [hi]⟩
theorem SW.start (w : World) (e : TypeId) : SW w (fun _ => 0) ((w.alloc (.cells (Array.replicate 64 (.int .u32 0)) e)).alloc (.cells (Array.replicate 64 (.int .u32 0)) e)) := by
  have s1 : (w.alloc (.cells (Array.replicate 64 (.int .u32 0)) e)).heap.size = w.heap.size + 1 := by simp
  refine ⟨((Below.refl _ _).alloc (Nat.le_refl _) _).alloc (by omega) _, arr_rep (e := e) ?_, arr_rep (e := e) ?_⟩
  · rw [Below.heap_alloc _ _ _ (by omega)]
    exact heap_alloc_new w _
  · rw [← s1]
    exact heap_alloc_new _ _
theorem SW.next {w wr w' : World} {f : Nat → W32} (h : SW w f wr) (hb : Below wr.heap.size wr w') : SW w f w' :=
  ⟨h.bel.trans (hb.mono h.bel.size), h.res.next hb h.res.lt, h.row.next hb h.row.lt⟩
theorem SW.put {w wr : World} {f : Nat → W32} (h : SW w f wr) (i : Nat) (x : W32) : SW w (upd f i x) (wr.setCell ⟨w.heap.size + 1, i, none⟩ (.int .u32 (nv x))) := by
  refine ⟨h.bel.setCell (by simp) _, ?_, h.row.set x⟩
  obtain ⟨cs, e, h1, h2, h3⟩ := h.res
  exact ⟨cs, e, (Below.heap_setCell _ _ _ _ (by simp)).trans h1, h2, h3⟩

attribute [-go_sem] loadCellsFrom
end Go.Proofs.YtaooibocknemkaaGreat
end

section
namespace Go.Proofs.YtaooibocknemkaaGreat
open Go.RowKit Go.BigFrame
set_option linter.unusedVariables false
set_option linter.unusedSimpArgs false

theorem info_u8b : (Tryz.prog.info? 5).map (fun i => (i.zero, i.size, i.bytes)) = some (some (.int .u8 0), 1, 1) := by kernel_rfl
end Go.Proofs.YtaooibocknemkaaGreat
end

section
namespace Go.Proofs.YtaooibocknemkaaGreat
open Go.RowKit
set_option linter.unusedVariables false

set_option maxHeartbeats 1000000 in
set_option maxRecDepth 100000 in
theorem check_used (b : Nat) (w : World) (h0 : w.cell? ⟨b, 0, none⟩ = some (.pointer (some ⟨b, 0, none⟩))) :
    Calls Tryz.prog 162 #[.pointer (some ⟨b, 0, none⟩)] w fun e w' => e = .returned (.tuple #[]) ∧ w = w' := by
  obtain ⟨j, hj, _⟩ := Option.map_eq_some_iff.1 (show (Tryz.prog.info? 163).map (·.size) = some 2 by kernel_rfl)
  have hne := Lib.run_neq_ptr_same (P := Tryz.prog) w ⟨b, 0, none⟩ Tryz.underlying161 hj
  go_enter Tryz.func162, Tryz.ntmps162
  go_wp2
  go_end0
  exact ⟨rfl, rfl⟩

set_option maxHeartbeats 1000000 in
set_option maxRecDepth 100000 in
theorem check_fresh (b : Nat) (w : World) (h0 : w.cell? ⟨b, 0, none⟩ = some (.pointer none)) (hsh : w.shape? b = some (163, 2)) (hfz : w.frozen? ⟨b, 0, none⟩ = false) :
    Calls Tryz.prog 162 #[.pointer (some ⟨b, 0, none⟩)] w fun e w' => e = .returned (.tuple #[]) ∧ w.setCell ⟨b, 0, none⟩ (.pointer (some ⟨b, 0, none⟩)) = w' := by
  obtain ⟨j, hj, hjs⟩ := Option.map_eq_some_iff.1 (show (Tryz.prog.info? 163).map (·.size) = some 2 by kernel_rfl)
  have h1 := Lib.run_to_unsafe (P := Tryz.prog) w ⟨b, 0, none⟩ Tryz.underlying161 Tryz.underlying225 hj (by rw [hjs]; decide) hsh (Nat.zero_lt_succ 1)
  have h2 := Lib.run_from_unsafe (P := Tryz.prog) w ⟨b, 0, none⟩ Tryz.underlying225 Tryz.underlying161 hj hsh (by kernel_rfl)
  have h3 := Lib.run_neq_ptr_same (P := Tryz.prog) (w.setCell ⟨b, 0, none⟩ (.pointer (some ⟨b, 0, none⟩))) ⟨b, 0, none⟩ Tryz.underlying161 hj
  have H1 := Lib.hid h1
  have H2 := Lib.hid h2
  have H3 := Lib.hid h3
  clear h1 h2 h3 hsh hj hjs
  go_enter Tryz.func162, Tryz.ntmps162
  go_wp2
  rw [H1.out]
  simp only [Result.andThen]
  rw [Oper.upon_value]
  go_wp2
  rw [run_callFunc_extern Tryz.func176 (by kernel_rfl) (by kernel_rfl) (by kernel_rfl) (e := Extern.AbiNoEscape.same) (by kernel_rfl)]
  rw [Lib.run_noEscape]
  simp only [Result.andThen]
  rw [Oper.upon_value]
  go_wp2
  rw [H2.out]
  simp only [Result.andThen]
  rw [Oper.upon_value]
  go_wp2
  go_end0
  exact ⟨rfl, rfl⟩

theorem isb_later {T e B b : Nat} {bs : List Value} {w w' : World} (h : Lib.IsBuilder T e B b bs w) (hb : Below w.heap.size w w') : Lib.IsBuilder T e B b bs w' := by
  have key : ∀ p, Lib.BuilderAt T e B b p bs w → Lib.BuilderAt T e B b p bs w' := fun p ⟨hB, v, hbk, hown, hne⟩ =>
    ⟨hB, v, by rw [hb.block b (Array.getElem?_eq_some_iff.1 hbk).1]; exact hbk, ownsRow_below hown hb, hne⟩
  exact h.imp (key _) (key _)
theorem isb_new (T e : Nat) (w : World) : Lib.IsBuilder T e w.heap.size w.heap.size [] (w.alloc (.cells #[.pointer none, .slice none 0 0] T)) :=
  .inl ⟨Nat.le_refl _, .slice none 0 0, heap_alloc_new w _, World.ownsRow_nil _ _ _ _, by simp [Value.ownBlock]⟩
theorem isb_lt {T e B b : Nat} {bs : List Value} {w : World} (h : Lib.IsBuilder T e B b bs w) : B ≤ b ∧ b < w.heap.size := by
  rcases h with h | h <;> exact ⟨h.1, h.lt⟩

theorem bstring_any (B b : Nat) (l : List UInt8) (w : World) (h : Lib.IsBuilder 163 5 B b (bytesOf l) w) (hBw : B ≤ w.heap.size) :
    Calls Tryz.prog 126 #[.pointer (some ⟨b, 0, none⟩)] w fun e w' => e = .returned (.string ⟨l.toArray⟩) ∧ Below B w w' :=
  Tryz.Builder_String_any B b l w h hBw

end Go.Proofs.YtaooibocknemkaaGreat
end

section
namespace Go.Proofs.YtaooibocknemkaaGreat
end Go.Proofs.YtaooibocknemkaaGreat
end

section
namespace Go.Proofs.YtaooibocknemkaaGreat
open Go.RowKit
set_option linter.unusedVariables false

/-- The builder's row is another block. -/
def RowNot (b X : Nat) (w : World) : Prop := ∀ (p v : Value) (T : TypeId) (f : Nat × Nat), w.heap[b]? = some (.cells #[p, v] T f) → v.ownBlock ≠ some X
/-- What isn't the builder's own stays. -/
def BKeep (b : Nat) (w w' : World) : Prop := ∀ X, X ≠ b → X < w.heap.size → RowNot b X w → w'.heap[X]? = w.heap[X]? ∧ RowNot b X w' ∧ X < w'.heap.size
theorem BKeep.refl (b : Nat) (w : World) : BKeep b w w := fun X h1 h2 h3 => ⟨rfl, h3, h2⟩
theorem BKeep.trans {b : Nat} {w1 w2 w3 : World} (h : BKeep b w1 w2) (k : BKeep b w2 w3) : BKeep b w1 w3 := fun X h1 h2 h3 => by
  obtain ⟨e1, r1, l1⟩ := h X h1 h2 h3
  obtain ⟨e2, r2, l2⟩ := k X h1 l1 r1
  exact ⟨e2.trans e1, r2, l2⟩
theorem BKeep.of_below {b : Nat} {w w' : World} (h : Below w.heap.size w w') (hb : b < w.heap.size) : BKeep b w w' := fun X h1 h2 h3 =>
  ⟨h.block X h2, fun p v T f e => h3 p v T f (by rw [← h.block b hb]; exact e), Nat.lt_of_lt_of_le h2 h.size⟩
theorem bcheck_x (B b : Nat) (bs : List Value) (w : World) (h : Lib.IsBuilder 163 5 B b bs w) :
    Calls Tryz.prog 162 #[.pointer (some ⟨b, 0, none⟩)] w fun e w' => e = .returned (.tuple #[]) ∧ Lib.BuilderAt 163 5 B b (.pointer (some ⟨b, 0, none⟩)) bs w' ∧ Below B w w' ∧ BKeep b w w' := by
  rcases h with h | h
  · refine (check_fresh b w h.cell0 h.shape h.frozen0).mono fun e w' ⟨h1, h2⟩ => ⟨h1, h2 ▸ h.used _, h2 ▸ (Below.refl B w).setCell (p := ⟨b, 0, none⟩) h.1 _, ?_⟩
    subst h2
    obtain ⟨hB, v, hbk, hown, hne⟩ := h
    intro X hX hl hr
    refine ⟨Below.heap_setCell _ _ _ _ hX, fun p v' T f e => ?_, by rw [World.size_setCell]; exact hl⟩
    rw [heap_setCell_at hbk] at e
    have e2 := Option.some.inj e
    injection e2 with e3 e4
    have e5 : v' = v := by
      have := congrArg (fun a => a.toList) e3
      simp at this
      exact this.2.symm
    subst e5
    exact hr _ _ _ _ hbk
  · exact (check_used b w h.cell0).mono fun e w' ⟨h1, h2⟩ => ⟨h1, h2 ▸ h, h2 ▸ Below.refl B _, h2 ▸ BKeep.refl b _⟩

set_option maxHeartbeats 1000000 in
set_option maxRecDepth 100000 in
theorem bwrite_x (B b : Nat) (l : List UInt8) (s : ByteArray) (w : World) (h : Lib.IsBuilder 163 5 B b (bytesOf l) w) (hlen : l.length + s.size ≤ 140737488355328) (hBw : B ≤ w.heap.size) :
    Calls Tryz.prog 123 #[.pointer (some ⟨b, 0, none⟩), .string s] w fun e w' => e = .returned (.tuple #[.int .i64 s.size, .nilIface]) ∧
      Lib.IsBuilder 163 5 B b (bytesOf (l ++ s.data.toList)) w' ∧ Below B w w' ∧ BKeep b w w' := by
  obtain ⟨i0, hi, hz0, hz1, hz2⟩ := info_parts info_u8b
  have HC := Lib.hid (bcheck_x B b (bytesOf l) w h)
  have HL := Lib.hid hlen
  clear h hlen
  go_enter Tryz.func123, Tryz.ntmps123
  go_wp2_with fail
  refine HC.out.mono ?_
  rintro e w1 ⟨rfl, hb1, hbl, hbk1⟩
  obtain ⟨hB, v, hbk, hown, hne⟩ := hb1
  have hlt := (Array.getElem?_eq_some_iff.1 hbk).1
  rw [bytesOf_length] at hown
  obtain ⟨a, c, rfl, -, -⟩ := ownsRow_shape hown
  obtain ⟨v', w2, hrun, hown', hgrow, hnew⟩ := append_own_src (P := Tryz.prog) w1 B 99 9 99 5 i0 _ 1 1 Tryz.underlying99 hi hz0 hz1 hz2 rfl _ _ _ hown (.string s) s.size (byteCells s) (Src.ofString w1 Tryz.underlying9 s)
    (by rw [maxLen_eq]; have := HL.out; omega) (by have := HL.out; omega) (Nat.le_trans hBw hbl.size)
  obtain ⟨a', c', rfl, -, -⟩ := ownsRow_shape hown'
  have hb2 : w2.heap[b]? = _ := (hgrow.block b hlt (fun e => hne e.symm)).trans hbk
  have h1 : w1.cell? ⟨b, 1, none⟩ = some (.slice a l.length c) := cell_at hbk
  have h2 : w2.cell? ⟨b, 1, none⟩ = some (.slice a l.length c) := cell_at hb2
  have h3 : w2.frozen? ⟨b, 1, none⟩ = false := free_at hb2
  have hne' : (Value.slice a' (l.length + s.size) c').ownBlock ≠ some b := by
    rcases hnew with e | e
    · rw [e]; exact hne
    · rw [e]; intro e'; cases e'; exact absurd hlt (Nat.lt_irrefl _)
  have hkp : BKeep b w (w2.setCell ⟨b, 1, none⟩ (.slice a' (l.length + s.size) c')) := by
    refine hbk1.trans fun X hX hl hr => ?_
    have hrX := hr _ _ _ _ hbk
    refine ⟨(Below.heap_setCell _ _ _ _ hX).trans (hgrow.block X hl (fun e => hrX e.symm)), fun p v T f e => ?_, by rw [World.size_setCell]; exact Nat.lt_of_lt_of_le hl hgrow.size⟩
    rw [heap_setCell_at hb2] at e
    have e2 := Option.some.inj e
    injection e2 with e3 e4
    have e5 : v = .slice a' (l.length + s.size) c' := by
      have := congrArg (fun a => a.toList) e3
      simp at this
      exact this.2.symm
    subst e5
    rcases hnew with e | e
    · rw [e]; exact hrX
    · rw [e]; intro e'; cases e'; exact absurd hl (Nat.lt_irrefl _)
  have hfin : Lib.IsBuilder 163 5 B b (bytesOf (l ++ s.data.toList)) (w2.setCell ⟨b, 1, none⟩ (.slice a' (l.length + s.size) c')) ∧ Below B w (w2.setCell ⟨b, 1, none⟩ (.slice a' (l.length + s.size) c')) ∧ BKeep b w (w2.setCell ⟨b, 1, none⟩ (.slice a' (l.length + s.size) c')) := by
    refine ⟨.inr ⟨hB, _, heap_setCell_at hb2, ?_, hne'⟩, (hbl.grown hgrow (Nat.le_trans hBw hbl.size) (fun k e => (hown.lt k e).1)).setCell (p := ⟨b, 1, none⟩) hB _, hkp⟩
    rw [bytesOf_length, List.length_append, data_len, bytesOf_append, ← byteCells_eq]
    exact ownsRow_of_block hown' fun k e => Below.heap_setCell _ _ _ _ (fun e' => hne' (by rw [e, e']))
  have HF := Lib.hid hfin
  have HR := Lib.hid hrun
  clear hfin hrun hown' hgrow hnew hbk hb2 hne hne' hown hi hz0 hz1 hz2 hkp hbk1
  go_wp2_with (at_builtin; refine wpList_append_run rfl (.tmp 12) (.tmp 13) 99 9 rfl rfl rfl HR.out ?_)
  go_ret2
  exact ⟨rfl, HF.out⟩
/-- A block that is made behind the builder isn't the builder's row. -/
theorem rowNot_new {T e B b : Nat} {bs : List Value} {w : World} {X : Nat} (h : Lib.IsBuilder T e B b bs w) (hX : w.heap.size ≤ X) : RowNot b X w := by
  intro p v T' f e' hv
  have key : ∀ q, Lib.BuilderAt T e B b q bs w → False := by
    rintro q ⟨-, v', hbk, hown, -⟩
    rw [hbk] at e'
    have e2 := Option.some.inj e'
    injection e2 with e3 e4
    have e5 : v' = v := by
      have := congrArg (fun a => a.toList) e3
      simp at this
      exact this.2
    subst e5
    have := (hown.lt X hv).2
    omega
  rcases h with h | h
  · exact key _ h
  · exact key _ h
theorem rowNot_new' {T e B b : Nat} {bs : List Value} {w w' : World} {X : Nat} (h : Lib.IsBuilder T e B b bs w) (hb : Below w.heap.size w w') (hX : w.heap.size ≤ X) (hlt : b < w.heap.size) : RowNot b X w' := fun p v T' f e =>
  rowNot_new h hX p v T' f (by rw [← hb.block b hlt]; exact e)
end Go.Proofs.YtaooibocknemkaaGreat
end

section
namespace Go.Proofs.YtaooibocknemkaaGreat
open Go.RowKit Go.BigFrame
open Go.Lib (hid)
set_option linter.unusedVariables false
set_option linter.unusedSimpArgs false

def SIs (l : List UInt8) (w : World) (e : Ending) (w' : World) : Prop := e = .returned (.string (bL l)) ∧ Below w.heap.size w w'
theorem oput_any (n k : Nat) (hn : n < 18446744073709551616) (hk : okSize k) (w : World) : Calls Tryz.prog 41 #[.int .u64 n, .int .i64 k] w (SIs (leB n k) w) := put_any n k hn hk w
set_option maxHeartbeats 1000000 in
theorem vput_any (n : Nat) (hn : n < 18446744073709551616) (w : World) : Calls Tryz.prog 69 #[.int .u64 n] w (SIs (vintL n) w) := by
  have s1 : ∀ m, (bL (leB m 1)).size = 1 := fun m => by rw [bL_size, leB_length]
  have s2 : ∀ m, (bL (leB m 2)).size = 2 := fun m => by rw [bL_size, leB_length]
  have s4 : ∀ m, (bL (leB m 4)).size = 4 := fun m => by rw [bL_size, leB_length]
  have s8 : ∀ m, (bL (leB m 8)).size = 8 := fun m => by rw [bL_size, leB_length]
  by_cases h1 : n < 253
  · have hz : (n : Int) < 253 := by omega
    have HF := hid (show vintL n = leB n 1 by unfold vintL; rw [if_pos h1])
    clear h1
    go_enter Tryz.func69, Tryz.ntmps69
    go_wp2_with fail
    refine (oput_any n 1 hn (.inl rfl) w).mono ?_
    rintro e w1 ⟨rfl, hb⟩
    go_wp2_with fail
    go_ret
    exact ⟨by rw [HF.out]; rfl, hb⟩
  · have hz1 : ¬ (n : Int) < 253 := by omega
    by_cases h2 : n < 65536
    · have hz : (n : Int) < 65536 := by omega
      have HF := hid (show vintL n = leB 253 1 ++ leB n 2 by unfold vintL; rw [if_neg h1, if_pos h2])
      clear h1 h2
      go_enter Tryz.func69, Tryz.ntmps69
      go_wp2_with fail
      refine (oput_any 253 1 (by omega) (.inl rfl) w).mono ?_
      rintro e w1 ⟨rfl, hb⟩
      have HB := hid hb
      clear hb
      go_wp2_with fail
      refine (oput_any n 2 hn (.inr (.inl rfl)) w1).mono ?_
      rintro e w2 ⟨rfl, hb⟩
      have q1 := s1 253
      have q2 := s2 n
      go_wp2_with fail
      go_ret
      exact ⟨by rw [HF.out, ← bL_app]; rfl, HB.out.trans (hb.mono HB.out.size)⟩
    · have hz2 : ¬ (n : Int) < 65536 := by omega
      by_cases h3 : n < 4294967296
      · have hz : (n : Int) < 4294967296 := by omega
        have HF := hid (show vintL n = leB 254 1 ++ leB n 4 by unfold vintL; rw [if_neg h1, if_neg h2, if_pos h3])
        clear h1 h2 h3
        go_enter Tryz.func69, Tryz.ntmps69
        go_wp2_with fail
        refine (oput_any 254 1 (by omega) (.inl rfl) w).mono ?_
        rintro e w1 ⟨rfl, hb⟩
        have HB := hid hb
        clear hb
        go_wp2_with fail
        refine (oput_any n 4 hn (.inr (.inr (.inl rfl))) w1).mono ?_
        rintro e w2 ⟨rfl, hb⟩
        have q1 := s1 254
        have q2 := s4 n
        go_wp2_with fail
        go_ret
        exact ⟨by rw [HF.out, ← bL_app]; rfl, HB.out.trans (hb.mono HB.out.size)⟩
      · have hz : ¬ (n : Int) < 4294967296 := by omega
        have HF := hid (show vintL n = leB 255 1 ++ leB n 8 by unfold vintL; rw [if_neg h1, if_neg h2, if_neg h3])
        clear h1 h2 h3
        go_enter Tryz.func69, Tryz.ntmps69
        go_wp2_with fail
        refine (oput_any 255 1 (by omega) (.inl rfl) w).mono ?_
        rintro e w1 ⟨rfl, hb⟩
        have HB := hid hb
        clear hb
        go_wp2_with fail
        refine (oput_any n 8 hn (.inr (.inr (.inr rfl))) w1).mono ?_
        rintro e w2 ⟨rfl, hb⟩
        have q1 := s1 255
        have q2 := s8 n
        go_wp2_with fail
        go_ret
        exact ⟨by rw [HF.out, ← bL_app]; rfl, HB.out.trans (hb.mono HB.out.size)⟩
theorem orput_any (n k : Nat) (hn : n < 18446744073709551616) (hk : okSize k) (w : World) : Calls Tryz.prog 50 #[.int .u64 n, .int .i64 k] w (SIs (leB n k) w) := rput_any n k hn hk w
set_option maxHeartbeats 1000000 in
theorem rvput_any (n : Nat) (hn : n < 18446744073709551616) (w : World) : Calls Tryz.prog 80 #[.int .u64 n] w (SIs (vintL n) w) := by
  have s1 : ∀ m, (bL (leB m 1)).size = 1 := fun m => by rw [bL_size, leB_length]
  have s2 : ∀ m, (bL (leB m 2)).size = 2 := fun m => by rw [bL_size, leB_length]
  have s4 : ∀ m, (bL (leB m 4)).size = 4 := fun m => by rw [bL_size, leB_length]
  have s8 : ∀ m, (bL (leB m 8)).size = 8 := fun m => by rw [bL_size, leB_length]
  by_cases h1 : n < 253
  · have hz : (n : Int) < 253 := by omega
    have HF := hid (show vintL n = leB n 1 by unfold vintL; rw [if_pos h1])
    clear h1
    go_enter Tryz.func80, Tryz.ntmps80
    go_wp2_with fail
    refine (orput_any n 1 hn (.inl rfl) w).mono ?_
    rintro e w1 ⟨rfl, hb⟩
    go_wp2_with fail
    go_ret
    exact ⟨by rw [HF.out]; rfl, hb⟩
  · have hz1 : ¬ (n : Int) < 253 := by omega
    by_cases h2 : n < 65536
    · have hz : (n : Int) < 65536 := by omega
      have HF := hid (show vintL n = leB 253 1 ++ leB n 2 by unfold vintL; rw [if_neg h1, if_pos h2])
      clear h1 h2
      go_enter Tryz.func80, Tryz.ntmps80
      go_wp2_with fail
      refine (orput_any n 2 hn (.inr (.inl rfl)) w).mono ?_
      rintro e w2 ⟨rfl, hb⟩
      have q2 := s2 n
      have q1 : (⟨#[253]⟩ : ByteArray).size = 1 := rfl
      go_wp2_with fail
      go_ret
      exact ⟨by rw [HF.out, ← bL_app]; rfl, hb⟩
    · have hz2 : ¬ (n : Int) < 65536 := by omega
      by_cases h3 : n < 4294967296
      · have hz : (n : Int) < 4294967296 := by omega
        have HF := hid (show vintL n = leB 254 1 ++ leB n 4 by unfold vintL; rw [if_neg h1, if_neg h2, if_pos h3])
        clear h1 h2 h3
        go_enter Tryz.func80, Tryz.ntmps80
        go_wp2_with fail
        refine (orput_any n 4 hn (.inr (.inr (.inl rfl))) w).mono ?_
        rintro e w2 ⟨rfl, hb⟩
        have q2 := s4 n
        have q1 : (⟨#[254]⟩ : ByteArray).size = 1 := rfl
        go_wp2_with fail
        go_ret
        exact ⟨by rw [HF.out, ← bL_app]; rfl, hb⟩
      · have hz : ¬ (n : Int) < 4294967296 := by omega
        have HF := hid (show vintL n = leB 255 1 ++ leB n 8 by unfold vintL; rw [if_neg h1, if_neg h2, if_neg h3])
        clear h1 h2 h3
        go_enter Tryz.func80, Tryz.ntmps80
        go_wp2_with fail
        refine (orput_any n 8 hn (.inr (.inr (.inr rfl))) w).mono ?_
        rintro e w2 ⟨rfl, hb⟩
        have q2 := s8 n
        have q1 : (⟨#[255]⟩ : ByteArray).size = 1 := rfl
        go_wp2_with fail
        go_ret
        exact ⟨by rw [HF.out, ← bL_app]; rfl, hb⟩

theorem counted_any (n : Nat) (hn : n ≤ 9223372036854775807) (w : World) : Calls Tryz.prog 124 #[.int .i64 n] w (SIs (vintL n) w) := by
  have hlo : (0 : Int) ≤ n := by omega
  have hhi : (n : Int) ≤ 9223372036854775807 := by omega
  go_enter Tryz.func124, Tryz.ntmps124
  go_wp2_with fail
  refine (vput_any n (by omega) w).mono ?_
  rintro e w1 ⟨rfl, hb⟩
  go_wp2_with fail
  go_ret
  exact ⟨rfl, hb⟩
theorem rlength_any (n : Nat) (hn : n ≤ 9223372036854775807) (w : World) : Calls Tryz.prog 107 #[.int .i64 n] w (SIs (vintL n) w) := by
  have hlo : (0 : Int) ≤ n := by omega
  have hhi : (n : Int) ≤ 9223372036854775807 := by omega
  go_enter Tryz.func107, Tryz.ntmps107
  go_wp2_with fail
  refine (rvput_any n (by omega) w).mono ?_
  rintro e w1 ⟨rfl, hb⟩
  go_wp2_with fail
  go_ret
  exact ⟨rfl, hb⟩
theorem sized_any (s : ByteArray) (hs : s.size ≤ 1000000) (w : World) : Calls Tryz.prog 125 #[.string s] w (SIs (sizedL s) w) := by
  have q1 : (bL (vintL s.size)).size ≤ 9 := by rw [bL_size]; exact vintL_le _
  go_enter Tryz.func125, Tryz.ntmps125
  go_wp2_with fail
  refine (counted_any s.size (by omega) w).mono ?_
  rintro e w1 ⟨rfl, hb⟩
  go_wp2_with fail
  go_ret
  exact ⟨by unfold sizedL; rw [← bL_app, bL_data]; rfl, hb⟩
/-- A builder has one part more. -/
def BPut (B b : Nat) (l : List UInt8) (w : World) (w' : World) : Prop := Lib.IsBuilder 163 5 B b (bytesOf l) w' ∧ Below B w w' ∧ BKeep b w w'
theorem eput_any (B b n k : Nat) (l : List UInt8) (hn : n < 18446744073709551616) (hk : okSize k) (w : World) (h : Lib.IsBuilder 163 5 B b (bytesOf l) w) (hl : l.length ≤ 1000000) (hB : B ≤ w.heap.size) :
    Calls Tryz.prog 122 #[.int .u64 n, .int .i64 k, .pointer (some ⟨b, 0, none⟩)] w fun e w' => (∃ v, e = .returned v) ∧ BPut B b (l ++ leB n k) w w' := by
  have HI := hid h
  have HBB := hid hB
  have hk8 : k ≤ 8 := by unfold okSize at hk; omega
  clear h hB
  go_enter Tryz.func122, Tryz.ntmps122
  go_wp2_with fail
  refine (oput_any n k hn hk w).mono ?_
  rintro e w1 ⟨rfl, hb⟩
  go_wp2_with fail
  refine (bwrite_x B b l (bL (leB n k)) w1 (isb_later HI.out hb) (by rw [bL_size, leB_length]; omega) (Nat.le_trans HBB.out hb.size)).mono ?_
  rintro e w2 ⟨rfl, hi, hb2, hk2⟩
  rw [bL_list] at hi
  have HF := hid (show BPut B b (l ++ leB n k) w w2 from ⟨hi, (hb.mono HBB.out).trans hb2, (BKeep.of_below hb (isb_lt HI.out).2).trans hk2⟩)
  clear hi hb hb2 hk2
  go_wp2_with fail
  exact bodyPost_end (v := .tuple #[]) (by kernel_rfl) rfl ⟨⟨_, rfl⟩, HF.out⟩
end Go.Proofs.YtaooibocknemkaaGreat
end

section
namespace Go.Proofs.YtaooibocknemkaaGreat
open Go.RowKit Go.BigFrame
set_option linter.unusedVariables false
set_option linter.unusedSimpArgs false
theorem rn_any (n : Int) (k : Nat) (h0 : 0 ≤ n) (h1 : n ≤ 9223372036854775807) (hk : okSize k) (w : World) : Calls Tryz.prog 48 #[.int .i64 n, .int .i64 k] w (SIs (leB n.toNat k) w) := by
  obtain ⟨m, rfl⟩ : ∃ m : Nat, n = m := ⟨n.toNat, by omega⟩
  have h2 : (m : Int) ≤ 9223372036854775807 := h1
  have H := Lib.hid (orput_any m k (by omega) hk w)
  rw [show (m : Int).toNat = m from rfl]
  clear h1
  go_enter Tryz.func48, Tryz.ntmps48
  go_wp2_with fail
  refine H.out.mono ?_
  rintro e w1 ⟨rfl, hb⟩
  go_wp2_with fail
  go_ret
  exact ⟨rfl, hb⟩
end Go.Proofs.YtaooibocknemkaaGreat
end

section
namespace Go.Proofs.YtaooibocknemkaaGreat
open Go.RowKit
set_option linter.unusedVariables false
set_option linter.unusedSimpArgs false

def poly : W32 := 0x82F63B78
def lsb (c : W32) : Bool := c.getLsbD 0
def crcBit (c : W32) : W32 := if lsb c = true then (c >>> 1) ^^^ poly else c >>> 1
def crcBits : Nat → W32 → W32
  | 0, c => c
  | n + 1, c => crcBit (crcBits n c)
def byW (b : UInt8) : W32 := BitVec.ofNat 32 b.toNat
def crcByte (c : W32) (b : UInt8) : W32 := crcBits 8 (c ^^^ byW b)
def crcS (l : List UInt8) : W32 := l.foldl crcByte (BitVec.ofNat 32 4294967295)
def crcL (l : List UInt8) : W32 := ~~~ crcS l
theorem crcS_snoc {l : List UInt8} {k : Nat} {b : UInt8} (h : l[k]? = some b) : crcS (l.take (k + 1)) = crcByte (crcS (l.take k)) b := by
  unfold crcS
  rw [List.take_add_one, h, List.foldl_append]
  rfl
theorem lsb_nat (c : W32) : c.toNat % 2 = if lsb c = true then 1 else 0 := by
  unfold lsb
  rw [BitVec.getLsbD, Nat.testBit_zero]
  split
  · rename_i h; simpa using h
  · rename_i h
    simp at h
    omega
/-! ### the rounds may be gone back -/
theorem crc_nine : crcL [49, 50, 51, 52, 53, 54, 55, 56, 57] = 0xE3069283 := by decide +kernel
end Go.Proofs.YtaooibocknemkaaGreat
end
