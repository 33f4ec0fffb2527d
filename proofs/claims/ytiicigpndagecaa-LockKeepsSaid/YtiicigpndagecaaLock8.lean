/-
  Locks, the eighth part: equal texts; the Sequence; transactions as data. Conditions: none beyond each theorem's own.
-/
import Derived.Test.YtiicigpndagecaaLock7
namespace Go.Proofs.Ytiicigpndagecaa
open Go.RowKit Go.BigFrame
set_option linter.unusedVariables false

set_option maxRecDepth 100000 in
set_option maxHeartbeats 1000000 in
theorem eqstr_any (v u : Value) (xs ys : List ByteArray) (w : World) (hv : SlAt rpStr w v xs) (hu : SlAt rpStr w u ys) :
    Calls Try.prog 23 #[v, u] w fun e w' => e = .returned (.bool (decide (xs = ys))) ∧ Below w.heap.size w w' := by
  obtain ⟨a, c, rfl, hl1, hl2⟩ := hv.shape
  obtain ⟨a', c', rfl, hl1', hl2'⟩ := hu.shape
  rw [maxLen_eq] at hl2 hl2'
  by_cases hlen : xs.length = ys.length
  case neg =>
    have hne : ((xs.length : Int) != ys.length) = true := by rw [bne_iff_ne]; omega
    have hd : decide (xs = ys) = false := decide_eq_false (fun h => hlen (by rw [h]))
    rw [hd]
    clear hv hu hlen hd
    go_enter Try.func23, Try.ntmps23
    go_wp2
    go_ret
    exact ⟨rfl, Below.refl _ _⟩
  obtain ⟨n, hn⟩ : ∃ n, n = xs.length := ⟨_, rfl⟩
  rw [← hlen, ← hn] at hu hl1'
  rw [← hn] at hv hl1
  rw [← hlen, ← hn]
  have HN := Lib.hid (And.intro hn (hlen ▸ hn))
  clear hn hlen
  go_enter Try.func23, Try.ntmps23
  go_wp2_with fail
  go_loopw [5, 13] (fun _ i wr => ∃ k : Nat, k ≤ n ∧ i = .int .i64 k ∧ Below w.heap.size w wr ∧ ∀ j, j < k → xs[j]? = ys[j]?) (fun _ i _ => n - (intOf i).toNat)
  case atStart => exact ⟨0, Nat.zero_le _, rfl, Below.refl _ _, fun j hj => absurd hj (Nat.not_lt_zero _)⟩
  case round =>
    obtain ⟨k, hk, rfl, hbw, hsame⟩ := hrel
    by_cases hlt : k < n
    · obtain ⟨b, o, x, rfl, hx, -, hc0⟩ := (hv.mono (below_cells hbw)).str hlt
      obtain ⟨b', o', y, rfl, hy, -, hd0⟩ := (hu.mono (below_cells hbw)).str hlt
      have HX := Lib.hid (And.intro hx hy)
      have HS := Lib.hid hsame
      have HW := Lib.hid hbw
      clear hx hy hsame hbw hv hu
      by_cases hxy : x = y
      · subst hxy
        have hs2 : ∀ j, j < k + 1 → xs[j]? = ys[j]? := fun j hj => by
          rcases Nat.lt_or_ge j k with h | h
          · exact HS.out j h
          · obtain rfl : j = k := by omega
            rw [HX.out.1, HX.out.2]
        have HS2 := Lib.hid hs2
        clear hs2
        go_wp2_with fail
        go_quiet (fail)
        go_wp2
        go_roundw
        case rel => exact ⟨k + 1, by omega, by go_num, HW.out.trans ⟨rfl, rfl, rfl, Nat.le_refl _, fun _ _ => rfl⟩, HS2.out⟩
        case measure => simp [intOf]; omega
      · have hne : (x.toList == y.toList) = false := by
          rw [beq_eq_false_iff_ne]
          intro h
          rw [ByteArray.toList_eq, ByteArray.toList_eq] at h
          exact hxy (by rw [← mk_data x, ← mk_data y, h])
        have hne2 : ¬ (x.toList = y.toList) := by simpa using hne
        have hd : decide (xs = ys) = false := decide_eq_false (fun h => hxy (by have := HX.out; rw [h] at this; simpa using this.1.symm.trans this.2))
        have HD := Lib.hid hd.symm
        clear hd hxy
        go_wp2_with fail
        go_quiet (fail)
        go_wp2
        go_ret
        exact ⟨ret_bool HD.out, HW.out.trans ⟨rfl, rfl, rfl, Nat.le_refl _, fun _ _ => rfl⟩⟩
    · obtain rfl : k = n := by omega
      have hd : decide (xs = ys) = true := decide_eq_true (lists_eq_of HN.out.1.symm HN.out.2.symm hsame)
      have HD := Lib.hid hd.symm
      have HW := Lib.hid hbw
      clear hv hu hsame hbw hd
      go_wp2
      go_ret
      exact ⟨ret_bool HD.out, HW.out⟩

theorem sequence_any (tg dl hg : Nat) (w : World) (hd : dl < 65536) : Calls Try.prog 26 #[.agg #[.int .u16 tg, .int .u16 dl, .int .u32 hg]] w fun e w' => e = .returned (.int .u32 (if 0 < dl then (dl : Int) else 4294967293)) ∧ Below w.heap.size w w' := by
  by_cases h : 0 < dl
  · rw [if_pos h]
    go_enter Try.func26, Try.ntmps26
    go_wp2
    go_ret
    exact ⟨rfl, (Below.refl _ _).alloc (Nat.le_refl _) _⟩
  · rw [if_neg h]
    go_enter Try.func26, Try.ntmps26
    go_wp2
    go_ret
    exact ⟨rfl, (Below.refl _ _).alloc (Nat.le_refl _) _⟩

def waitsOf (t : PTx) (i : Nat) : Nat := match t.ins[i]? with | some x => if x.seq < 2147483648 ∧ 2 ≤ t.ver then x.seq % 65536 else 0 | none => 0
theorem waitsOf_lt (t : PTx) (i : Nat) : waitsOf t i < 65536 := by
  unfold waitsOf
  split
  · split
    · exact Nat.mod_lt _ (by omega)
    · omega
  · omega

end Go.Proofs.Ytiicigpndagecaa
