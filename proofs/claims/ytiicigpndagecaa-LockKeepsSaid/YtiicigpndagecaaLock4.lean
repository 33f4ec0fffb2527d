/-
  Locks, the fourth part: the document's Get. Conditions: none beyond each theorem's own.
-/
import Derived.Test.YtiicigpndagecaaLock3
namespace Go.Proofs.Ytiicigpndagecaa
open Go.RowKit
set_option linter.unusedVariables false

def RGetIs (s : ByteArray) (w : World) (e : Ending) (w' : World) : Prop := ∃ v, e = .returned v ∧ SlAt rpBr w' v ((lockGet s).getD []) ∧ Below w.heap.size w w'
theorem rget_none {s : ByteArray} {w w' : World} (h : lockGet s = none) (hb : Below w.heap.size w w') : RGetIs s w (.returned (.slice none 0 0)) w' := by
  unfold RGetIs
  rw [h]
  exact ⟨_, rfl, sl_nil, hb⟩
theorem rget_some {s : ByteArray} {w w' : World} {l : List PBr} {v : Value} (h : lockGet s = some l) (hv : SlAt rpBr w' v l) (hb : Below w.heap.size w w') : RGetIs s w (.returned v) w' := by
  unfold RGetIs
  rw [h]
  exact ⟨_, rfl, hv, hb⟩

theorem rg2 (s : ByteArray) (i : Int) (p : Nat) (hi : i = p) (hs : s.size ≤ 9223372036854775807) (h : p + 2 ≤ s.size) (w : World) :
    Calls Try.prog 40 #[.string s, .int .i64 i, .int .i64 2] w fun e w' => e = .returned (.tuple #[.int .u64 (getN s p 2), .bool true]) ∧ w = w' := by subst hi; exact rget_yes s p 2 (.inr (.inl rfl)) hs h w
theorem rg4 (s : ByteArray) (i : Int) (p : Nat) (hi : i = p) (hs : s.size ≤ 9223372036854775807) (h : p + 4 ≤ s.size) (w : World) :
    Calls Try.prog 40 #[.string s, .int .i64 i, .int .i64 4] w fun e w' => e = .returned (.tuple #[.int .u64 (getN s p 4), .bool true]) ∧ w = w' := by subst hi; exact rget_yes s p 4 (.inr (.inr (.inl rfl))) hs h w

set_option maxRecDepth 100000 in
set_option maxHeartbeats 2000000 in
theorem rlget_any (s : ByteArray) (hs : s.size ≤ 9223372036854775807) (w : World) : Calls Try.prog 21 #[.string s] w (RGetIs s w) := by
  by_cases hz : s.size = 9 ∨ s.size = 17 ∨ s.size = 25
  case neg =>
    have h9 : ((s.size : Int) != 9) = true := by rw [bne_iff_ne]; omega
    have h17 : ((s.size : Int) != 17) = true := by rw [bne_iff_ne]; omega
    have h25 : ((s.size : Int) != 25) = true := by rw [bne_iff_ne]; omega
    have hno : ¬ okLen s := fun h => hz (by have := h.1; have := h.2.1; have := h.2.2; omega)
    have HNO := Lib.hid hno
    clear hno hz
    go_enter Try.func21, Try.ntmps21
    go_wp2
    go_ret
    exact rget_none (lockGet_len HNO.out) (Below.refl _ _)
  obtain ⟨m, hm1, hm3, hlen⟩ : ∃ m, 1 ≤ m ∧ m ≤ 3 ∧ s.size = 1 + 8 * m := by
    rcases hz with h | h | h
    · exact ⟨1, by omega, by omega, h⟩
    · exact ⟨2, by omega, by omega, h⟩
    · exact ⟨3, by omega, by omega, h⟩
  have hsz : 0 < s.size := by omega
  obtain ⟨b, r, hbr⟩ : ∃ b r, s.data.toList = b :: r := by
    cases h : s.data.toList with
    | nil => have := data_len s; rw [h] at this; simp at this; omega
    | cons b r => exact ⟨b, r, rfl⟩
  have hf : firstB s = b.toNat := by unfold firstB; rw [hbr]; rfl
  have hs0 : (s[0]'hsz) = b := by rw [byte_eq (i := 0) (j := 0) (hj := by rw [hbr]; simp) rfl]; simp [hbr]
  have hb256 := b.toNat_lt
  obtain ⟨q, hq⟩ : ∃ q, b.toNat = q := ⟨_, rfl⟩
  rw [hq] at hf hb256
  have HF := Lib.hid hf
  clear hbr hf
  have hdiv : ((s.size : Int) - 1).tdiv 8 = m := by rw [hlen]; rw [Int.tdiv_eq_ediv_of_nonneg (by omega)]; omega
  have key : ∀ t : Int, ((s.size : Int) = t) → (t = 9 ∨ t = 17 ∨ t = 25) → ((t != 9) = false ∨ ((t != 9) = true ∧ (t != 17) = false) ∨ ((t != 9) = true ∧ (t != 17) = true ∧ (t != 25) = false)) := by
    rintro t _ (rfl | rfl | rfl) <;> decide
  have hk := key _ rfl (by omega)
  have HLEN := Lib.hid hlen
  clear key hz hlen
  by_cases hqm : q = m
  case neg =>
    have hqn : ((q : Int) != m) = true := by rw [bne_iff_ne]; omega
    have hno : ¬ okLen s := fun h => hqm (by have := h.2.2; have := HLEN.out; rw [HF.out] at *; omega)
    have HNO := Lib.hid hno
    clear hno
    rcases hk with h1 | ⟨h1, h2⟩ | ⟨h1, h2, h3⟩
    all_goals
      go_enter Try.func21, Try.ntmps21
      go_wp2
      go_ret
      exact rget_none (lockGet_len HNO.out) (Below.refl _ _)
  subst hqm
  obtain ⟨i0, hi, hz0, hz1, hz2⟩ := info_parts info_br
  have HI := Lib.hid (And.intro hi (And.intro hz0 (And.intro hz1 hz2)))
  clear hi hz0 hz1 hz2
  rcases hk with h1 | ⟨h1, h2⟩ | ⟨h1, h2, h3⟩
  all_goals
    go_enter Try.func21, Try.ntmps21
    go_wp2_with fail
    go_loopw [4, 5, 6, 7, 8, 9, 10, 11] (fun l i _ _ _ _ _ _ wr => ∃ k : Nat, k ≤ q ∧ i = .int .i64 k ∧ Below w.heap.size w wr ∧ wr.ownsRow w.heap.size 51 3 l k (brCells (brs s k)) ∧ (brs s k).any tooHigh = false) (fun _ i _ _ _ _ _ _ _ => q - (intOf i).toNat)
    case atStart => exact ⟨0, Nat.zero_le _, rfl, Below.refl _ _, World.ownsRow_nil _ _ _ _, rfl⟩
    case round =>
      obtain ⟨k, hk, rfl, hbw, hown, hany⟩ := hrel
      obtain ⟨a, c, rfl, -, -⟩ := ownsRow_shape hown
      by_cases hlt : k < q
      · have hkz : 1 + 8 * k + 8 ≤ s.size := by have := HLEN.out; omega
        have HW := Lib.hid hbw
        have HO := Lib.hid hown
        have HA := Lib.hid hany
        obtain ⟨tg, htg⟩ : ∃ tg, tg = getN s (1 + 8 * k) 2 := ⟨_, rfl⟩
        obtain ⟨dl, hdl⟩ : ∃ dl, dl = getN s (3 + 8 * k) 2 := ⟨_, rfl⟩
        obtain ⟨hg, hhg⟩ : ∃ hg, hg = getN s (5 + 8 * k) 4 := ⟨_, rfl⟩
        have ht1 : tg < 65536 := htg ▸ getN_lt s _ 2
        have ht2 : dl < 65536 := hdl ▸ getN_lt s _ 2
        have ht3 : hg < 4294967296 := hhg ▸ getN_lt s _ 4
        have hx : brAt s k = ⟨tg, dl, hg⟩ := by unfold brAt; rw [htg, hdl, hhg]
        have HX := Lib.hid hx
        have n1 := fun (i : Int) (hi : i = (1 + 8 * k : Nat)) w => rg2 s i (1 + 8 * k) hi hs (by omega) w
        have n2 := fun (i : Int) (hi : i = (3 + 8 * k : Nat)) w => rg2 s i (3 + 8 * k) hi hs (by omega) w
        have n3 := fun (i : Int) (hi : i = (5 + 8 * k : Nat)) w => rg4 s i (5 + 8 * k) hi hs (by omega) w
        rw [← htg] at n1
        rw [← hdl] at n2
        rw [← hhg] at n3
        have N1 := Lib.hid n1
        have N2 := Lib.hid n2
        have N3 := Lib.hid n3
        clear hbw hown n1 n2 n3 htg hdl hhg hx hany
        go_wp2_with fail
        refine (N1.out _ (by omega) _).mono ?_
        rintro e w1 ⟨rfl, rfl⟩
        go_wp2_with fail
        refine (N2.out _ (by omega) _).mono ?_
        rintro e w2 ⟨rfl, rfl⟩
        go_wp2_with fail
        refine (N3.out _ (by omega) _).mono ?_
        rintro e w3 ⟨rfl, rfl⟩
        have hw3 := HW.out
        obtain ⟨e1, e2, e3, e4⟩ := HI.out
        obtain ⟨a', c', w4, hrun, hown4, hb4, -⟩ := append_el (P := Try.prog) Try.underlying22 e1 e2 e3 e4 rfl HO.out #[.int .u16 tg, .int .u16 dl, .int .u32 hg] rfl (by simp [Value.oneCell']) (by rw [maxLen_eq]; omega) (by omega) hw3.size (ty := 22)
        by_cases hh : 1000000 < hg
        · have hall : (brs s (firstB s)).any tooHigh = true := by
            rw [HF.out, List.any_eq_true]
            exact ⟨brAt s k, List.mem_map.2 ⟨k, List.mem_range.2 hlt, rfl⟩, by rw [HX.out]; simp [tooHigh, hh]⟩
          have HALL := Lib.hid hall
          have HW3 := Lib.hid hw3
          clear hrun hown4 hb4 e1 e2 e3 e4 hw3 hall
          go_wp2
          go_ret
          exact rget_none (lockGet_high HALL.out) HW3.out
        have hfin : Below w.heap.size w w4 ∧ w4.ownsRow w.heap.size 51 3 (.slice a' (k + 1) c') (k + 1) (brCells (brs s (k + 1))) ∧ (brs s (k + 1)).any tooHigh = false := by
          refine ⟨hw3.trans hb4, ?_, ?_⟩
          · rw [brs_succ, HX.out]
            simpa [brCells] using hown4
          · rw [brs_succ, HX.out, List.any_append, HA.out]
            simp [tooHigh]
            omega
        have HFIN := Lib.hid hfin
        have HR := Lib.hid hrun
        clear hfin hrun hown4 hb4 e1 e2 e3 e4 hw3
        go_wp2_with (at_builtin; refine wpList_append_run rfl (.tmp 65) (.tmp 73) 22 22 rfl rfl rfl HR.out ?_)
        go_roundw
        case rel => exact ⟨k + 1, by omega, by go_num, HFIN.out.1, HFIN.out.2.1, HFIN.out.2.2⟩
        case measure => simp [intOf]; omega
      · obtain rfl : k = q := by omega
        have hsl : SlAt rpBr wr (.slice a k c) (brs s k) := SlAt.of_br hown (fun x hx => by
          obtain ⟨i, _, rfl⟩ := List.mem_map.1 hx
          exact brAt_ok s i)
        have hok : okLen s := ⟨by rw [HF.out]; omega, by rw [HF.out]; omega, by rw [HF.out]; exact HLEN.out⟩
        have HW := Lib.hid hbw
        have HS := Lib.hid hsl
        have HA := Lib.hid hany
        have HOK := Lib.hid hok
        clear hbw hown hsl hany hok
        go_wp2
        go_ret
        exact rget_some (by have := lockGet_ok HOK.out (by rw [HF.out]; exact HA.out); rw [HF.out] at this; exact this) HS.out HW.out

end Go.Proofs.Ytiicigpndagecaa
