/-
  The document's long and Check. Conditions: no more than a thousand Outs.
-/
import Derived.Test.YtfkcldaogfengaaTxK
namespace Go.Proofs.Ytfkcldaogfengaa
open Go.RowKit Go.BigFrame
set_option linter.unusedVariables false
set_option linter.unusedSimpArgs false

theorem any_at {α : Type} {p : α → Bool} {xs : List α} {k : Nat} {x : α} (hx : xs[k]? = some x) (hp : p x = true) : xs.any p = true := List.any_eq_true.2 ⟨x, List.mem_of_getElem? hx, hp⟩

set_option maxRecDepth 100000 in
set_option maxHeartbeats 2000000 in
theorem rlong_any (v : Value) (t : PTx) (w : World) (hv : TxAt w v t) : Calls Try.prog 51 #[v] w (BIs (longOf t) w) := by
  obtain ⟨va, vo, rfl, hia, hob, hv1, hv2⟩ := hv
  obtain ⟨a, c, rfl, hl1, hl2⟩ := hia.shape
  obtain ⟨a', c', rfl, hl1', hl2'⟩ := hob.shape
  rw [maxLen_eq] at hl2 hl2'
  have htb := TB.start hia hob
  have HTB := Lib.hid htb
  clear htb hia hob hv1 hv2
  obtain ⟨r, hr⟩ : ∃ r, r = longOf t := ⟨_, rfl⟩
  rw [← hr]
  unfold longOf at hr
  have HR := Lib.hid hr
  clear hr
  obtain ⟨n, hn⟩ : ∃ n, n = t.ins.length := ⟨_, rfl⟩
  obtain ⟨n', hn'⟩ : ∃ n, n = t.outs.length := ⟨_, rfl⟩
  rw [← hn, ← hn'] at HTB
  rw [← hn] at hl1 ⊢
  rw [← hn'] at hl1' ⊢
  have HN := Lib.hid hn
  have HN' := Lib.hid hn'
  clear hn hn'
  go_enter Try.func51, Try.ntmps51
  go_upto_region 1 with fail
  generalize w.alloc (.cells #[.int .u32 t.ver, .slice a n c, .slice a' n' c', .int .u32 t.lock] 41) = w0 at *
  have c1 : w0.cell? ⟨w.heap.size, 1, none⟩ = some (.slice a n c) := cell_at HTB.out.box
  have c2 : w0.cell? ⟨w.heap.size, 2, none⟩ = some (.slice a' n' c') := cell_at HTB.out.box
  go_wp2_with fail
  go_loopg [3] n' (fun g i wr => ∃ (k : Nat), g = n' - k ∧ k ≤ n' ∧ i = .int .i64 k ∧ wr = w0 ∧ ∀ (j : Nat) (y : POut), j < k → t.outs[j]? = some y → decide (40 < y.script.size) = false)
  case atStart => exact ⟨0, rfl, by omega, rfl, rfl, fun j y hj => absurd hj (Nat.not_lt_zero _)⟩
  case round =>
    rename World => wo
    obtain ⟨k, hgk, hk, rfl, rfl, hall⟩ := hrel
    have HGK := Lib.hid hgk
    have HALL := Lib.hid hall
    clear hgk hall
    by_cases hlt : k < n'
    · obtain ⟨b, o, x, rfl, hx, hok, d0, d1⟩ := HTB.out.outs.outp hlt
      have hsl : x.script.size ≤ 9223372036854775807 := by have := hok.2; rw [maxLen_eq] at this; exact this
      have HX := Lib.hid hx
      clear hx hok d0
      by_cases h40 : 40 < x.script.size
      · have HF := Lib.hid (any_at (p := fun x : POut => decide (40 < x.script.size)) HX.out (decide_eq_true h40))
        go_wp2_with fail
        go_ret
        exact ⟨ret_bool (by rw [HR.out, HF.out]; rfl), HTB.out.bel⟩
      · have HNX := Lib.hid (before_step HALL.out HX.out (decide_eq_false h40))
        go_wp2_with fail
        go_roundg (n' - (k + 1))
        case measure => have := HGK.out; omega
        case rel => exact ⟨k + 1, rfl, by omega, by go_num, rfl, HNX.out⟩
    · obtain rfl : k = n' := by omega
      have HO := Lib.hid (any_no HN'.out HALL.out)
      rw [HO.out, Bool.false_or] at HR
      clear HALL HGK hlt hk
      go_wp2_with fail
      go_loopg [4] n (fun g i wr => ∃ (k : Nat), g = n - k ∧ k ≤ n ∧ i = .int .i64 k ∧ wr = wo ∧ ∀ (j : Nat) (y : PIn), j < k → t.ins[j]? = some y → longIn y = false)
      case atStart => exact ⟨0, rfl, by omega, rfl, rfl, fun j y hj => absurd hj (Nat.not_lt_zero _)⟩
      case round =>
        rename World => wp
        obtain ⟨k, hgk, hk, rfl, rfl, hall⟩ := hrel
        have HGK := Lib.hid hgk
        have HALL := Lib.hid hall
        clear hgk hall
        by_cases hlt : k < n
        · obtain ⟨b, o, x, wv, rfl, hx, hseq, hidx, hid, hwv, d0, d1, d2, d3⟩ := HTB.out.ins.inp hlt
          obtain ⟨wa, wc, rfl, hw1, hw2⟩ := hwv.shape
          rw [maxLen_eq] at hw2
          have HX := Lib.hid hx
          obtain ⟨wl, hwl⟩ : ∃ wl, wl = x.wit.length := ⟨_, rfl⟩
          rw [← hwl] at hwv hw1 d3
          have HWV := Lib.hid hwv
          have HWL := Lib.hid hwl
          clear hx hwv hwl d0 d1 d2
          go_wp2_with fail
          go_loopg [5] wl (fun g i wr => ∃ (q : Nat), g = wl - q ∧ q ≤ wl ∧ i = .int .i64 q ∧ wr = wp ∧ ∀ (j : Nat) (y : ByteArray), j < q → x.wit[j]? = some y → decide (80 < y.size) = false)
          case atStart => exact ⟨0, rfl, by omega, rfl, rfl, fun j y hj => absurd hj (Nat.not_lt_zero _)⟩
          case round =>
            rename World => wq
            obtain ⟨q, hgq, hq, rfl, rfl, hall⟩ := hrel
            have HGQ := Lib.hid hgq
            have HAQ := Lib.hid hall
            clear hgq hall
            by_cases hql : q < wl
            · obtain ⟨b2, o2, y, rfl, hy, hys, e0⟩ := HWV.out.str hql
              have HY := Lib.hid hy
              clear hy
              by_cases h80 : 80 < y.size
              · have HF := Lib.hid (any_at (p := longIn) HX.out (any_at (p := fun s : ByteArray => decide (80 < s.size)) HY.out (decide_eq_true h80)))
                go_wp2_with fail
                go_ret
                exact ⟨ret_bool (by rw [HR.out, HF.out]), HTB.out.bel⟩
              · have HNX := Lib.hid (before_step HAQ.out HY.out (decide_eq_false h80))
                go_wp2_with fail
                go_roundg (wl - (q + 1))
                case measure => have := HGQ.out; omega
                case rel => exact ⟨q + 1, rfl, by omega, by go_num, rfl, HNX.out⟩
            · obtain rfl : q = wl := by omega
              have HNX := Lib.hid (before_step HALL.out HX.out (show longIn x = false from any_no HWL.out HAQ.out))
              go_wp2_with fail
              go_roundg (n - (k + 1))
              case measure => have := HGK.out; omega
              case rel => exact ⟨k + 1, rfl, by omega, by go_num, rfl, HNX.out⟩
        · obtain rfl : k = n := by omega
          have HF := Lib.hid (any_no HN.out HALL.out)
          go_wp2_with fail
          go_ret
          exact ⟨ret_bool (by rw [HR.out, HF.out]), HTB.out.bel⟩
end Go.Proofs.Ytfkcldaogfengaa
