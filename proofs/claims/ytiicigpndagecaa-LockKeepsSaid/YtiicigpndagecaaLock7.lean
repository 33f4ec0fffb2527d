/-
  Locks, the seventh part: equal slices; the Sequence. Conditions: none beyond each theorem's own.
-/
import Derived.Test.YtiicigpndagecaaLock6
import Derived.Laws.StructEq
import Derived.Laws.Cover2
namespace Go.Proofs.Ytiicigpndagecaa
open Go.RowKit Go.BigFrame
set_option linter.unusedVariables false

instance : DecidableEq PBr := fun a b => match a, b with | ⟨a1, a2, a3⟩, ⟨b1, b2, b3⟩ => if h : a1 = b1 ∧ a2 = b2 ∧ a3 = b3 then .isTrue (by obtain ⟨rfl, rfl, rfl⟩ := h; rfl) else .isFalse (by intro e; cases e; exact h ⟨rfl, rfl, rfl⟩)

def brEq (a b c a' b' c' : Int) : Bool := decide (a = a' ∧ b = b' ∧ c = c')
@[go_sem] theorem eq_br (a b c a' b' c' : Int) (w : World) : (Op.equalIn 10000 51 (.agg #[.int .u16 a, .int .u16 b, .int .u32 c]) (.agg #[.int .u16 a', .int .u16 b', .int .u32 c'])).run Try.prog w = .ok (brEq a b c a' b' c') w := by
  unfold brEq
  have u1 := Try.underlying42
  have u2 := Try.underlying23
  have hS : Try.prog.underlying 51 = some (.struct (Try.prog.fieldsOf 51)) := by kernel_rfl
  have hp : Try.prog.stoodInHeld 51 = false := by kernel_rfl
  rw [show (10000 : Nat) = 9999 + 1 from rfl, run_equalIn_agg w 9999 51 _ _ hS hp]
  simp only [Program.fieldsOf, Try.underlying51]
  go_simp
  by_cases h1 : a = a' <;> by_cases h2 : b = b' <;> by_cases h3 : c = c' <;> simp [h1, h2, h3]
attribute [-go_sem] run_equalIn_agg
theorem guard_br : Try.prog.eqGuardType Try.prog.depth 51 = false := by kernel_rfl

theorem lists_eq_of {α : Type} {xs ys : List α} {n : Nat} (h1 : xs.length = n) (h2 : ys.length = n) (h : ∀ i, i < n → xs[i]? = ys[i]?) : xs = ys := by
  apply List.ext_getElem?
  intro i
  rcases Nat.lt_or_ge i n with hi | hi
  · exact h i hi
  · rw [List.getElem?_eq_none (by omega), List.getElem?_eq_none (by omega)]

set_option maxRecDepth 100000 in
set_option maxHeartbeats 1000000 in
theorem eqbr_any (v u : Value) (xs ys : List PBr) (w : World) (hv : SlAt rpBr w v xs) (hu : SlAt rpBr w u ys) :
    Calls Try.prog 20 #[v, u] w fun e w' => e = .returned (.bool (decide (xs = ys))) ∧ Below w.heap.size w w' := by
  obtain ⟨a, c, rfl, hl1, hl2⟩ := hv.shape
  obtain ⟨a', c', rfl, hl1', hl2'⟩ := hu.shape
  have hgd := guard_br
  rw [maxLen_eq] at hl2 hl2'
  by_cases hlen : xs.length = ys.length
  case neg =>
    have hne : ((xs.length : Int) != ys.length) = true := by rw [bne_iff_ne]; omega
    have hd : decide (xs = ys) = false := decide_eq_false (fun h => hlen (by rw [h]))
    rw [hd]
    clear hv hu hlen hd
    go_enter Try.func20, Try.ntmps20
    go_wp2
    go_ret
    exact ⟨rfl, Below.refl _ _⟩
  obtain ⟨n, hn⟩ : ∃ n, n = xs.length := ⟨_, rfl⟩
  rw [← hlen, ← hn] at hu hl1'
  rw [← hn] at hv hl1
  rw [← hlen, ← hn]
  have HN := Lib.hid (And.intro hn (hlen ▸ hn))
  clear hn hlen
  go_enter Try.func20, Try.ntmps20
  go_wp2_with fail
  go_loopw [5, 13] (fun _ i wr => ∃ k : Nat, k ≤ n ∧ i = .int .i64 k ∧ Below w.heap.size w wr ∧ ∀ j, j < k → xs[j]? = ys[j]?) (fun _ i _ => n - (intOf i).toNat)
  case atStart => exact ⟨0, Nat.zero_le _, rfl, Below.refl _ _, fun j hj => absurd hj (Nat.not_lt_zero _)⟩
  case round =>
    obtain ⟨k, hk, rfl, hbw, hsame⟩ := hrel
    by_cases hlt : k < n
    · obtain ⟨b, o, x, rfl, hx, hxo, hc0, hc1, hc2⟩ := (hv.mono (below_cells hbw)).br hlt
      obtain ⟨b', o', y, rfl, hy, hyo, hd0, hd1, hd2⟩ := (hu.mono (below_cells hbw)).br hlt
      obtain ⟨x1, x2, x3⟩ := x
      obtain ⟨y1, y2, y3⟩ := y
      dsimp only at hc0 hc1 hc2 hd0 hd1 hd2
      have HX := Lib.hid (And.intro hx hy)
      have HS := Lib.hid hsame
      have HW := Lib.hid hbw
      clear hx hy hsame hbw hxo hyo hv hu
      by_cases hxy : (⟨x1, x2, x3⟩ : PBr) = ⟨y1, y2, y3⟩
      · obtain ⟨rfl, rfl, rfl⟩ : x1 = y1 ∧ x2 = y2 ∧ x3 = y3 := by simpa using hxy
        have hs2 : ∀ j, j < k + 1 → xs[j]? = ys[j]? := fun j hj => by
          rcases Nat.lt_or_ge j k with h | h
          · exact HS.out j h
          · obtain rfl : j = k := by omega
            rw [HX.out.1, HX.out.2]
        have HS2 := Lib.hid hs2
        have hdec : brEq x1 x2 x3 x1 x2 x3 = true := by simp [brEq]
        clear hs2 hxy
        go_wp2_with fail
        go_quiet (fail)
        go_wp2
        go_roundw
        case rel => exact ⟨k + 1, by omega, by go_num, HW.out.trans ⟨rfl, rfl, rfl, Nat.le_refl _, fun _ _ => rfl⟩, HS2.out⟩
        case measure => simp [intOf]; omega
      · have hne : ¬ ((x1 : Int) = y1 ∧ (x2 : Int) = y2 ∧ (x3 : Int) = y3) := fun h => hxy (by obtain ⟨h1, h2, h3⟩ := h; congr 1 <;> omega)
        have hd : decide (xs = ys) = false := decide_eq_false (fun h => hxy (by have := HX.out; rw [h] at this; simpa using this.1.symm.trans this.2))
        have HD := Lib.hid hd.symm
        have hdec : brEq x1 x2 x3 y1 y2 y3 = false := decide_eq_false hne
        clear hd hxy hne
        go_wp2_with fail
        go_quiet (fail)
        go_wp2
        go_ret
        exact ⟨ret_bool HD.out, HW.out.trans ⟨rfl, rfl, rfl, Nat.le_refl _, fun _ _ => rfl⟩⟩
    · obtain rfl : k = n := by omega
      have hd : decide (xs = ys) = true := decide_eq_true (lists_eq_of HN.out.1.symm HN.out.2.symm hsame)
      have HD := Lib.hid hd.symm
      have HW := Lib.hid hbw
      clear hv hu hsame hbw hd
      go_wp2
      go_ret
      exact ⟨ret_bool HD.out, HW.out⟩

end Go.Proofs.Ytiicigpndagecaa
