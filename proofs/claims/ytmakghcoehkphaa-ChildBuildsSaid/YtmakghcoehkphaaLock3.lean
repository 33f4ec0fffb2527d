/-
  Locks, the third part: the branches of a script. Conditions: none beyond each theorem's own.
-/
import Derived.Test.YtmakghcoehkphaaLock2
namespace Go.Proofs.Ytmakghcoehkphaa
open Go.RowKit
set_option linter.unusedVariables false

/-- The branch number i of a script. -/
def brAt (s : ByteArray) (i : Nat) : PBr := ⟨getN s (1 + 8 * i) 2, getN s (3 + 8 * i) 2, getN s (5 + 8 * i) 4⟩
def brs (s : ByteArray) (n : Nat) : List PBr := (List.range n).map (brAt s)
def firstB (s : ByteArray) : Nat := (s.data.toList.headD 0).toNat
/-- Has a script the length that its first byte says? -/
def okLen (s : ByteArray) : Prop := 1 ≤ firstB s ∧ firstB s ≤ 3 ∧ s.size = 1 + 8 * firstB s
instance (s : ByteArray) : Decidable (okLen s) := inferInstanceAs (Decidable (_ ∧ _))
def lockGet (s : ByteArray) : Option (List PBr) := if okLen s ∧ (brs s (firstB s)).any tooHigh = false then some (brs s (firstB s)) else none

theorem getN_lt (s : ByteArray) (p k : Nat) : getN s p k < 256 ^ k := by
  unfold getN
  refine Nat.lt_of_lt_of_le (leN_lt _) (Nat.pow_le_pow_right (by omega) ?_)
  rw [List.length_take]
  omega
theorem brAt_ok (s : ByteArray) (i : Nat) : (brAt s i).Ok := ⟨getN_lt s _ 2, getN_lt s _ 2, getN_lt s _ 4⟩
theorem brs_len (s : ByteArray) (n : Nat) : (brs s n).length = n := by simp [brs]
theorem brs_succ (s : ByteArray) (n : Nat) : brs s (n + 1) = brs s n ++ [brAt s n] := by simp [brs, List.range_succ]
theorem brs_take (s : ByteArray) {k n : Nat} (h : k ≤ n) : (brs s n).take k = brs s k := by
  unfold brs
  rw [← List.map_take, List.take_range, Nat.min_eq_left h]

/-- The cells of branches. -/
def brCells (l : List PBr) : List Value := l.flatMap fun x => [.int .u16 x.tag, .int .u16 x.delay, .int .u32 x.height]
theorem brCells_len (l : List PBr) : (brCells l).length = l.length * 3 := by
  induction l with
  | nil => rfl
  | cons x l ih => simp only [brCells, List.flatMap_cons, List.length_append, List.length_cons, List.length_nil] at *; omega
theorem brCells_at (l : List PBr) : ∀ (i : Nat) (x : PBr), l[i]? = some x → ∀ j u, [Value.int .u16 x.tag, .int .u16 x.delay, .int .u32 x.height][j]? = some u → (brCells l)[i * 3 + j]? = some u := by
  induction l with
  | nil => intro i x h; simp at h
  | cons y l ih =>
    intro i x h j u hj
    have hlt : j < 3 := by simpa using (List.getElem?_eq_some_iff.1 hj).1
    cases i with
    | zero =>
      have : y = x := by simpa using h
      subst this
      simp only [brCells, List.flatMap_cons]
      rw [List.getElem?_append_left (by simp; omega)]
      simpa using hj
    | succ i =>
      have h' : l[i]? = some x := by simpa using h
      have := ih i x h' j u hj
      simp only [brCells, List.flatMap_cons] at *
      rw [List.getElem?_append_right (by simp; omega)]
      rw [show (i + 1) * 3 + j - [Value.int .u16 y.tag, .int .u16 y.delay, .int .u32 y.height].length = i * 3 + j by simp; omega]
      exact this
theorem SlAt.of_br {w : World} {base e n : Nat} {v : Value} {l : List PBr} (ho : w.ownsRow base e 3 v n (brCells l)) (hok : ∀ x ∈ l, x.Ok) : SlAt rpBr w v l := by
  obtain ⟨a, c, rfl, h1, h2⟩ := ownsRow_shape ho
  have hl : l.length = n := by have := ho.1; rw [brCells_len] at this; omega
  refine ⟨a, c, by rw [hl], by omega, h2, fun i x hi => ?_⟩
  rcases ho.2 with ⟨h, h0⟩ | ⟨g, cap, cur, h, _, _, _, _, _, _⟩
  · have := (List.getElem?_eq_some_iff.1 hi).1
    omega
  · obtain ⟨rfl, rfl⟩ : a = some ⟨g, 0, none⟩ ∧ c = cap := by simpa using h
    refine ⟨g, 0, _, rfl, rfl, fun j u hj => ?_, rfl, hok x (List.mem_of_getElem? hi)⟩
    have := ho.cells (g := g) rfl _ u (brCells_at l i x hi j u hj)
    rw [Addr.add_lit] at this
    rw [Nat.add_assoc]
    exact this

theorem info_br : (Try.prog.info? 27).map (fun i => (i.zero, i.size, i.bytes)) = some (some (.agg #[.int .u16 0, .int .u16 0, .int .u32 0]), 3, 8) := by kernel_rfl

/-- What a Get answers: the branches, in memory made since. -/
def GetIs (s : ByteArray) (w : World) (e : Ending) (w' : World) : Prop := ∃ v, e = .returned (.tuple #[v, .int .i64 (if (lockGet s).isSome then 0 else 4)]) ∧ SlAt rpBr w' v ((lockGet s).getD []) ∧ Below w.heap.size w w' ∧ ∀ k, v.ownBlock = some k → w.heap.size ≤ k
theorem get_none {s : ByteArray} {w w' : World} (h : lockGet s = none) (hb : Below w.heap.size w w') : GetIs s w (.returned (.tuple #[.slice none 0 0, .int .i64 4])) w' := by
  unfold GetIs
  rw [h]
  exact ⟨_, rfl, sl_nil, hb, fun k h => by cases h⟩
theorem get_some {s : ByteArray} {w w' : World} {l : List PBr} {v : Value} (h : lockGet s = some l) (hv : SlAt rpBr w' v l) (hb : Below w.heap.size w w') (hk : ∀ k, v.ownBlock = some k → w.heap.size ≤ k) : GetIs s w (.returned (.tuple #[v, .int .i64 0])) w' := by
  unfold GetIs
  rw [h]
  exact ⟨_, rfl, hv, hb, hk⟩
theorem lockGet_len {s : ByteArray} (h : ¬ okLen s) : lockGet s = none := by unfold lockGet; rw [if_neg (fun h' => h h'.1)]
theorem lockGet_high {s : ByteArray} (h : (brs s (firstB s)).any tooHigh = true) : lockGet s = none := by unfold lockGet; rw [if_neg (fun h' => by rw [h] at h'; cases h'.2)]
theorem lockGet_ok {s : ByteArray} (h : okLen s) (h2 : (brs s (firstB s)).any tooHigh = false) : lockGet s = some (brs s (firstB s)) := by unfold lockGet; rw [if_pos ⟨h, h2⟩]

theorem number2 (s : ByteArray) (i : Int) (p : Nat) (hi : i = p) (hs : s.size ≤ 9223372036854775807) (h : p + 2 ≤ s.size) (w : World) :
    Calls Try.prog 89 #[.string s, .int .i64 i, .int .i64 2] w fun e w' => e = .returned (.int .u64 (getN s p 2)) ∧ Below w.heap.size w w' := by subst hi; exact number_any s p 2 (.inr (.inl rfl)) hs h w
theorem number4 (s : ByteArray) (i : Int) (p : Nat) (hi : i = p) (hs : s.size ≤ 9223372036854775807) (h : p + 4 ≤ s.size) (w : World) :
    Calls Try.prog 89 #[.string s, .int .i64 i, .int .i64 4] w fun e w' => e = .returned (.int .u64 (getN s p 4)) ∧ Below w.heap.size w w' := by subst hi; exact number_any s p 4 (.inr (.inr (.inl rfl))) hs h w

set_option maxRecDepth 100000 in
set_option maxHeartbeats 2000000 in
theorem lget_any (s : ByteArray) (hs : s.size ≤ 9223372036854775807) (w : World) : Calls Try.prog 68 #[.string s] w (GetIs s w) := by
  by_cases h0 : s = ⟨#[]⟩
  · subst h0
    go_enter Try.func68, Try.ntmps68
    go_wp2
    go_ret2
    exact get_none (lockGet_len (by decide)) (Below.refl _ _)
  obtain ⟨b, r, hbr⟩ : ∃ b r, s.data.toList = b :: r := by
    cases h : s.data.toList with
    | nil => exact absurd (by rw [← mk_data s, h]) h0
    | cons b r => exact ⟨b, r, rfl⟩
  have hf : firstB s = b.toNat := by unfold firstB; rw [hbr]; rfl
  have hsz : 0 < s.size := by rw [← data_len, hbr]; simp
  have hs0 : (s[0]'hsz) = b := by rw [byte_eq (i := 0) (j := 0) (hj := by rw [hbr]; simp) rfl]; simp [hbr]
  have hnil : (s.toList = []) = False := by rw [ByteArray.toList_eq, hbr]; simp
  have hemp : s.toList.isEmpty = false := by rw [ByteArray.toList_eq, hbr]; rfl
  have hb256 := b.toNat_lt
  obtain ⟨m, hm⟩ : ∃ m, b.toNat = m := ⟨_, rfl⟩
  rw [hm] at hf hb256
  have HF := Lib.hid hf
  have HBR := Lib.hid hbr
  clear hbr hf h0
  by_cases hm3 : 3 < m
  · go_enter Try.func68, Try.ntmps68
    go_wp2
    go_ret2
    exact get_none (lockGet_len (fun h => by have := h.2.1; rw [HF.out] at this; omega)) (Below.refl _ _)
  by_cases hlen : s.size = 1 + 8 * m
  case neg =>
    have hln : ((s.size : Int) != 1 + 8 * (m : Int)) = true := by rw [bne_iff_ne]; omega
    go_enter Try.func68, Try.ntmps68
    go_wp2
    go_ret2
    exact get_none (lockGet_len (fun h => hlen (by have := h.2.2; rw [HF.out] at this; exact this))) (Below.refl _ _)
  obtain ⟨i0, hi, hz0, hz1, hz2⟩ := info_parts info_br
  have HI := Lib.hid (And.intro hi (And.intro hz0 (And.intro hz1 hz2)))
  clear hi hz0 hz1 hz2
  go_enter Try.func68, Try.ntmps68
  go_wp2_with fail
  go_loopw [4, 5] (fun l i wr => ∃ k p : Nat, k ≤ m ∧ p = 1 + 8 * k ∧ i = .int .i64 p ∧ Below w.heap.size w wr ∧ wr.ownsRow w.heap.size 27 3 l k (brCells (brs s k))) (fun _ i _ => s.size + 8 - (intOf i).toNat)
  case atStart => exact ⟨0, 1, Nat.zero_le _, rfl, rfl, Below.refl _ _, World.ownsRow_nil _ _ _ _⟩
  case round =>
    obtain ⟨k, p, hk, hp, rfl, hbw, hown⟩ := hrel
    obtain ⟨a, c, rfl, -, -⟩ := ownsRow_shape hown
    by_cases hlt : k < m
    · have hpz : p < s.size := by omega
      have HW := Lib.hid hbw
      have HO := Lib.hid hown
      obtain ⟨tg, htg⟩ : ∃ tg, tg = getN s p 2 := ⟨_, rfl⟩
      obtain ⟨dl, hdl⟩ : ∃ dl, dl = getN s (p + 2) 2 := ⟨_, rfl⟩
      obtain ⟨hg, hhg⟩ : ∃ hg, hg = getN s (p + 4) 4 := ⟨_, rfl⟩
      have ht1 : tg < 65536 := htg ▸ getN_lt s _ 2
      have ht2 : dl < 65536 := hdl ▸ getN_lt s _ 2
      have ht3 : hg < 4294967296 := hhg ▸ getN_lt s _ 4
      have hx : brAt s k = ⟨tg, dl, hg⟩ := by
        unfold brAt
        rw [htg, hdl, hhg, hp, show 3 + 8 * k = 1 + 8 * k + 2 by omega, show 5 + 8 * k = 1 + 8 * k + 4 by omega]
      have HX := Lib.hid hx
      have n1 := fun (i : Int) (hi : i = p) w => number2 s i p hi hs (by omega) w
      have n2 := fun (i : Int) (hi : i = (p + 2 : Nat)) w => number2 s i (p + 2) hi hs (by omega) w
      have n3 := fun (i : Int) (hi : i = (p + 4 : Nat)) w => number4 s i (p + 4) hi hs (by omega) w
      rw [← htg] at n1
      rw [← hdl] at n2
      rw [← hhg] at n3
      have N1 := Lib.hid n1
      have N2 := Lib.hid n2
      have N3 := Lib.hid n3
      clear hbw hown n1 n2 n3 htg hdl hhg hx
      go_wp2_with fail
      refine (N1.out _ (by omega) _).mono ?_
      rintro e w1 ⟨rfl, hb1⟩
      have B1 := Lib.hid hb1
      clear hb1
      go_wp2_with fail
      refine (N2.out _ (by omega) _).mono ?_
      rintro e w2 ⟨rfl, hb2⟩
      have B2 := Lib.hid hb2
      clear hb2
      go_wp2_with fail
      refine (N3.out _ (by omega) _).mono ?_
      rintro e w3 ⟨rfl, hb3⟩
      have b1 := B1.out
      have b2 := B2.out
      have h12 := b1.trans (b2.mono b1.size)
      have h13 := h12.trans (hb3.mono h12.size)
      have hw3 := HW.out.trans (h13.mono HW.out.size)
      obtain ⟨e1, e2, e3, e4⟩ := HI.out
      obtain ⟨a', c', w4, hrun, hown4, hb4, -⟩ := append_el (P := Try.prog) Try.underlying67 e1 e2 e3 e4 rfl (ownsRow_below HO.out h13) #[.int .u16 tg, .int .u16 dl, .int .u32 hg] rfl (by simp [Value.oneCell']) (by rw [maxLen_eq]; omega) (by omega) hw3.size (ty := 67)
      have hfin : Below w.heap.size w w4 ∧ w4.ownsRow w.heap.size 27 3 (.slice a' (k + 1) c') (k + 1) (brCells (brs s (k + 1))) := by
        refine ⟨hw3.trans hb4, ?_⟩
        rw [brs_succ, HX.out]
        simpa [brCells] using hown4
      have HFIN := Lib.hid hfin
      have HR := Lib.hid hrun
      clear hfin hrun hown4 hb4 e1 e2 e3 e4 b1 b2 hb3 h12 h13 hw3
      go_wp2_with (at_builtin; refine wpList_append_run rfl (.tmp 32) (.tmp 48) 67 67 rfl rfl rfl HR.out ?_)
      go_roundw
      case rel => exact ⟨k + 1, p + 8, by omega, by omega, by go_num, HFIN.out.1, HFIN.out.2⟩
      case measure => simp [intOf]; omega
    · obtain rfl : k = m := by omega
      have hsl : SlAt rpBr wr (.slice a k c) (brs s k) := SlAt.of_br hown (fun x hx => by
        obtain ⟨i, _, rfl⟩ := List.mem_map.1 hx
        exact brAt_ok s i)
      have hob : ∀ j, (Value.slice a k c).ownBlock = some j → w.heap.size ≤ j := fun j hj => (hown.lt j hj).1
      have HOB := Lib.hid hob
      have HW := Lib.hid hbw
      have HS := Lib.hid hsl
      clear hbw hown hsl hob
      go_wp2_with fail
      refine (lput_any _ _ _ HS.out).mono ?_
      rintro e w1 ⟨rfl, hb1⟩
      have hw1 := HW.out.trans (hb1.mono HW.out.size)
      have hs1 := HS.out.below hb1
      have H1 := Lib.hid (And.intro hw1 hs1)
      clear hw1 hs1 hb1
      by_cases hk1 : k < 1
      · rw [lockPut_count (.inl (by rw [brs_len]; exact hk1))]
        go_wp2
        go_ret2
        exact get_none (lockGet_len (fun h => by have := h.1; rw [HF.out] at this; omega)) H1.out.1
      · have hok : okLen s := ⟨by rw [HF.out]; omega, by rw [HF.out]; omega, by rw [HF.out]; exact hlen⟩
        have HOK := Lib.hid hok
        clear hok
        cases hany : (brs s k).any tooHigh
        · rw [lockPut_ok (by rw [brs_len]; omega) hany]
          have HA := Lib.hid hany
          clear hany
          go_wp2
          go_ret2
          exact get_some (by have := lockGet_ok HOK.out (by rw [HF.out]; exact HA.out); rw [HF.out] at this; exact this) H1.out.2 H1.out.1 HOB.out
        · rw [lockPut_range (by rw [brs_len]; omega) hany]
          have HA := Lib.hid hany
          clear hany
          go_wp2
          go_ret2
          exact get_none (lockGet_high (by rw [HF.out]; exact HA.out)) H1.out.1

end Go.Proofs.Ytmakghcoehkphaa
