/-
  ClaimBuilds, part 5: the texts Lock2, Lock3, Lock4, Lock5, Lock6, Lock7, Lock8, Lock9, Lock10, Lock11, Lock12, Lock13, Lock14, Lock15, LockP, TxWh, Wa, Sha, Sha2, one after another. Conditions: none beyond those named at each.
-/
import Derived.Test.YtmakghcoehkphaaGreatQ4ClaimBuilds
import Derived.OwnWalk
import Derived.Laws.StructEq
import Derived.Laws.Cover2
import Derived.Test.YtmakghcoehkphaaGreatQ1ClaimBuilds
import Derived.BigQuiet
import Derived.Deep.QuietTactic
import Derived.Deep.LoopGhost
import Derived.Deep.DeepCutAuto
section
/-
  Locks, the second part: the document's Put, both Gets. Conditions: none beyond each theorem's own.
-/
namespace Go.Proofs.YtmakghcoehkphaaGreat
open Go.RowKit
set_option linter.unusedVariables false

/-- The number that stands in so many bytes. -/
theorem number_any (s : ByteArray) (p k : Nat) (hk : okSize k) (hs : s.size ≤ 9223372036854775807) (h : p + k ≤ s.size) (w : World) :
    Calls Tryz.prog 127 #[.string s, .int .i64 p, .int .i64 k] w fun e w' => e = .returned (.int .u64 (getN s p k)) ∧ Below w.heap.size w w' := by
  have hg := get_yes s p k hk hs h w
  have HG := Lib.hid hg
  clear hg hk
  go_enter Tryz.func127, Tryz.ntmps127
  go_wp2_with fail
  refine HG.out.mono ?_
  rintro e w1 ⟨rfl, hb1⟩
  go_wp2
  go_ret
  exact ⟨rfl, hb1⟩

end Go.Proofs.YtmakghcoehkphaaGreat
end

section
/-
  Locks, the third part: the branches of a script. Conditions: none beyond each theorem's own.
-/
namespace Go.Proofs.YtmakghcoehkphaaGreat
open Go.RowKit
set_option linter.unusedVariables false

/-- The branch number i of a script. -/
def brAt (s : ByteArray) (i : Nat) : PBr := ⟨getN s (1 + 8 * i) 2, getN s (3 + 8 * i) 2, getN s (5 + 8 * i) 4⟩
def brs (s : ByteArray) (n : Nat) : List PBr := (List.range n).map (brAt s)
def firstB (s : ByteArray) : Nat := (s.data.toList.headD 0).toNat
/-- Has a script the length that its first byte says? -/
def okLen (s : ByteArray) : Prop := 1 ≤ firstB s ∧ firstB s ≤ 3 ∧ s.size = 1 + 8 * firstB s
instance (s : ByteArray) : Decidable (okLen s) := inferInstanceAs (Decidable (_ ∧ _))
def lockGet (s : ByteArray) : Option (List PBr) := if okLen s ∧ (brs s (firstB s)).any tooHigh = false then some (brs s (firstB s)) else none

theorem getN_lt (s : ByteArray) (p k : Nat) : getN s p k < 256 ^ k := by
  unfold getN
  refine Nat.lt_of_lt_of_le (leN_lt _) (Nat.pow_le_pow_right (by omega) ?_)
  rw [List.length_take]
  omega
theorem brAt_ok (s : ByteArray) (i : Nat) : (brAt s i).Ok := ⟨getN_lt s _ 2, getN_lt s _ 2, getN_lt s _ 4⟩
theorem brs_len (s : ByteArray) (n : Nat) : (brs s n).length = n := by simp [brs]
theorem brs_succ (s : ByteArray) (n : Nat) : brs s (n + 1) = brs s n ++ [brAt s n] := by simp [brs, List.range_succ]
theorem brs_take (s : ByteArray) {k n : Nat} (h : k ≤ n) : (brs s n).take k = brs s k := by
  unfold brs
  rw [← List.map_take, List.take_range, Nat.min_eq_left h]

/-- The cells of branches. -/
def brCells (l : List PBr) : List Value := l.flatMap fun x => [.int .u16 x.tag, .int .u16 x.delay, .int .u32 x.height]
theorem brCells_len (l : List PBr) : (brCells l).length = l.length * 3 := by
  induction l with
  | nil => rfl
  | cons x l ih => simp only [brCells, List.flatMap_cons, List.length_append, List.length_cons, List.length_nil] at *; omega
theorem brCells_at (l : List PBr) : ∀ (i : Nat) (x : PBr), l[i]? = some x → ∀ j u, [Value.int .u16 x.tag, .int .u16 x.delay, .int .u32 x.height][j]? = some u → (brCells l)[i * 3 + j]? = some u := by
  induction l with
  | nil => intro i x h; simp at h
  | cons y l ih =>
    intro i x h j u hj
    have hlt : j < 3 := by simpa using (List.getElem?_eq_some_iff.1 hj).1
    cases i with
    | zero =>
      have : y = x := by simpa using h
      subst this
      simp only [brCells, List.flatMap_cons]
      rw [List.getElem?_append_left (by simp; omega)]
      simpa using hj
    | succ i =>
      have h' : l[i]? = some x := by simpa using h
      have := ih i x h' j u hj
      simp only [brCells, List.flatMap_cons] at *
      rw [List.getElem?_append_right (by simp; omega)]
      rw [show (i + 1) * 3 + j - [Value.int .u16 y.tag, .int .u16 y.delay, .int .u32 y.height].length = i * 3 + j by simp; omega]
      exact this
theorem SlAt.of_br {w : World} {base e n : Nat} {v : Value} {l : List PBr} (ho : w.ownsRow base e 3 v n (brCells l)) (hok : ∀ x ∈ l, x.Ok) : SlAt rpBr w v l := by
  obtain ⟨a, c, rfl, h1, h2⟩ := ownsRow_shape ho
  have hl : l.length = n := by have := ho.1; rw [brCells_len] at this; omega
  refine ⟨a, c, by rw [hl], by omega, h2, fun i x hi => ?_⟩
  rcases ho.2 with ⟨h, h0⟩ | ⟨g, cap, cur, h, _, _, _, _, _, _⟩
  · have := (List.getElem?_eq_some_iff.1 hi).1
    omega
  · obtain ⟨rfl, rfl⟩ : a = some ⟨g, 0, none⟩ ∧ c = cap := by simpa using h
    refine ⟨g, 0, _, rfl, rfl, fun j u hj => ?_, rfl, hok x (List.mem_of_getElem? hi)⟩
    have := ho.cells (g := g) rfl _ u (brCells_at l i x hi j u hj)
    rw [Addr.add_lit] at this
    rw [Nat.add_assoc]
    exact this

theorem info_br : (Tryz.prog.info? 32).map (fun i => (i.zero, i.size, i.bytes)) = some (some (.agg #[.int .u16 0, .int .u16 0, .int .u32 0]), 3, 8) := by kernel_rfl

/-- What a Get answers: the branches, in memory made since. -/
def GetIs (s : ByteArray) (w : World) (e : Ending) (w' : World) : Prop := ∃ v, e = .returned (.tuple #[v, .int .i64 (if (lockGet s).isSome then 0 else 4)]) ∧ SlAt rpBr w' v ((lockGet s).getD []) ∧ Below w.heap.size w w' ∧ ∀ k, v.ownBlock = some k → w.heap.size ≤ k
theorem get_none {s : ByteArray} {w w' : World} (h : lockGet s = none) (hb : Below w.heap.size w w') : GetIs s w (.returned (.tuple #[.slice none 0 0, .int .i64 4])) w' := by
  unfold GetIs
  rw [h]
  exact ⟨_, rfl, sl_nil, hb, fun k h => by cases h⟩
theorem get_some {s : ByteArray} {w w' : World} {l : List PBr} {v : Value} (h : lockGet s = some l) (hv : SlAt rpBr w' v l) (hb : Below w.heap.size w w') (hk : ∀ k, v.ownBlock = some k → w.heap.size ≤ k) : GetIs s w (.returned (.tuple #[v, .int .i64 0])) w' := by
  unfold GetIs
  rw [h]
  exact ⟨_, rfl, hv, hb, hk⟩
theorem lockGet_len {s : ByteArray} (h : ¬ okLen s) : lockGet s = none := by unfold lockGet; rw [if_neg (fun h' => h h'.1)]
theorem lockGet_high {s : ByteArray} (h : (brs s (firstB s)).any tooHigh = true) : lockGet s = none := by unfold lockGet; rw [if_neg (fun h' => by rw [h] at h'; cases h'.2)]
theorem lockGet_ok {s : ByteArray} (h : okLen s) (h2 : (brs s (firstB s)).any tooHigh = false) : lockGet s = some (brs s (firstB s)) := by unfold lockGet; rw [if_pos ⟨h, h2⟩]

theorem number2 (s : ByteArray) (i : Int) (p : Nat) (hi : i = p) (hs : s.size ≤ 9223372036854775807) (h : p + 2 ≤ s.size) (w : World) :
    Calls Tryz.prog 127 #[.string s, .int .i64 i, .int .i64 2] w fun e w' => e = .returned (.int .u64 (getN s p 2)) ∧ Below w.heap.size w w' := by subst hi; exact number_any s p 2 (.inr (.inl rfl)) hs h w
theorem number4 (s : ByteArray) (i : Int) (p : Nat) (hi : i = p) (hs : s.size ≤ 9223372036854775807) (h : p + 4 ≤ s.size) (w : World) :
    Calls Tryz.prog 127 #[.string s, .int .i64 i, .int .i64 4] w fun e w' => e = .returned (.int .u64 (getN s p 4)) ∧ Below w.heap.size w w' := by subst hi; exact number_any s p 4 (.inr (.inr (.inl rfl))) hs h w

set_option maxRecDepth 100000 in
set_option maxHeartbeats 2000000 in
theorem lget_any (s : ByteArray) (hs : s.size ≤ 9223372036854775807) (w : World) : Calls Tryz.prog 89 #[.string s] w (GetIs s w) := by
  by_cases h0 : s = ⟨#[]⟩
  · subst h0
    go_enter Tryz.func89, Tryz.ntmps89
    go_wp2
    go_ret2
    exact get_none (lockGet_len (by decide)) (Below.refl _ _)
  obtain ⟨b, r, hbr⟩ : ∃ b r, s.data.toList = b :: r := by
    cases h : s.data.toList with
    | nil => exact absurd (by rw [← mk_data s, h]) h0
    | cons b r => exact ⟨b, r, rfl⟩
  have hf : firstB s = b.toNat := by unfold firstB; rw [hbr]; rfl
  have hsz : 0 < s.size := by rw [← data_len, hbr]; simp
  have hs0 : (s[0]'hsz) = b := by rw [byte_eq (i := 0) (j := 0) (hj := by rw [hbr]; simp) rfl]; simp [hbr]
  have hnil : (s.toList = []) = False := by rw [ByteArray.toList_eq, hbr]; simp
  have hemp : s.toList.isEmpty = false := by rw [ByteArray.toList_eq, hbr]; rfl
  have hb256 := b.toNat_lt
  obtain ⟨m, hm⟩ : ∃ m, b.toNat = m := ⟨_, rfl⟩
  rw [hm] at hf hb256
  have HF := Lib.hid hf
  have HBR := Lib.hid hbr
  clear hbr hf h0
  by_cases hm3 : 3 < m
  · go_enter Tryz.func89, Tryz.ntmps89
    go_wp2
    go_ret2
    exact get_none (lockGet_len (fun h => by have := h.2.1; rw [HF.out] at this; omega)) (Below.refl _ _)
  by_cases hlen : s.size = 1 + 8 * m
  case neg =>
    have hln : ((s.size : Int) != 1 + 8 * (m : Int)) = true := by rw [bne_iff_ne]; omega
    go_enter Tryz.func89, Tryz.ntmps89
    go_wp2
    go_ret2
    exact get_none (lockGet_len (fun h => hlen (by have := h.2.2; rw [HF.out] at this; exact this))) (Below.refl _ _)
  obtain ⟨i0, hi, hz0, hz1, hz2⟩ := info_parts info_br
  have HI := Lib.hid (And.intro hi (And.intro hz0 (And.intro hz1 hz2)))
  clear hi hz0 hz1 hz2
  go_enter Tryz.func89, Tryz.ntmps89
  go_wp2_with fail
  go_loopw [4, 5] (fun l i wr => ∃ k p : Nat, k ≤ m ∧ p = 1 + 8 * k ∧ i = .int .i64 p ∧ Below w.heap.size w wr ∧ wr.ownsRow w.heap.size 32 3 l k (brCells (brs s k))) (fun _ i _ => s.size + 8 - (intOf i).toNat)
  case atStart => exact ⟨0, 1, Nat.zero_le _, rfl, rfl, Below.refl _ _, World.ownsRow_nil _ _ _ _⟩
  case round =>
    obtain ⟨k, p, hk, hp, rfl, hbw, hown⟩ := hrel
    obtain ⟨a, c, rfl, -, -⟩ := ownsRow_shape hown
    by_cases hlt : k < m
    · have hpz : p < s.size := by omega
      have HW := Lib.hid hbw
      have HO := Lib.hid hown
      obtain ⟨tg, htg⟩ : ∃ tg, tg = getN s p 2 := ⟨_, rfl⟩
      obtain ⟨dl, hdl⟩ : ∃ dl, dl = getN s (p + 2) 2 := ⟨_, rfl⟩
      obtain ⟨hg, hhg⟩ : ∃ hg, hg = getN s (p + 4) 4 := ⟨_, rfl⟩
      have ht1 : tg < 65536 := htg ▸ getN_lt s _ 2
      have ht2 : dl < 65536 := hdl ▸ getN_lt s _ 2
      have ht3 : hg < 4294967296 := hhg ▸ getN_lt s _ 4
      have hx : brAt s k = ⟨tg, dl, hg⟩ := by
        unfold brAt
        rw [htg, hdl, hhg, hp, show 3 + 8 * k = 1 + 8 * k + 2 by omega, show 5 + 8 * k = 1 + 8 * k + 4 by omega]
      have HX := Lib.hid hx
      have n1 := fun (i : Int) (hi : i = p) w => number2 s i p hi hs (by omega) w
      have n2 := fun (i : Int) (hi : i = (p + 2 : Nat)) w => number2 s i (p + 2) hi hs (by omega) w
      have n3 := fun (i : Int) (hi : i = (p + 4 : Nat)) w => number4 s i (p + 4) hi hs (by omega) w
      rw [← htg] at n1
      rw [← hdl] at n2
      rw [← hhg] at n3
      have N1 := Lib.hid n1
      have N2 := Lib.hid n2
      have N3 := Lib.hid n3
      clear hbw hown n1 n2 n3 htg hdl hhg hx
      go_wp2_with fail
      refine (N1.out _ (by omega) _).mono ?_
      rintro e w1 ⟨rfl, hb1⟩
      have B1 := Lib.hid hb1
      clear hb1
      go_wp2_with fail
      refine (N2.out _ (by omega) _).mono ?_
      rintro e w2 ⟨rfl, hb2⟩
      have B2 := Lib.hid hb2
      clear hb2
      go_wp2_with fail
      refine (N3.out _ (by omega) _).mono ?_
      rintro e w3 ⟨rfl, hb3⟩
      have b1 := B1.out
      have b2 := B2.out
      have h12 := b1.trans (b2.mono b1.size)
      have h13 := h12.trans (hb3.mono h12.size)
      have hw3 := HW.out.trans (h13.mono HW.out.size)
      obtain ⟨e1, e2, e3, e4⟩ := HI.out
      obtain ⟨a', c', w4, hrun, hown4, hb4, -⟩ := append_el (P := Tryz.prog) Tryz.underlying73 e1 e2 e3 e4 rfl (ownsRow_below HO.out h13) #[.int .u16 tg, .int .u16 dl, .int .u32 hg] rfl (by simp [Value.oneCell']) (by rw [maxLen_eq]; omega) (by omega) hw3.size (ty := 73)
      have hfin : Below w.heap.size w w4 ∧ w4.ownsRow w.heap.size 32 3 (.slice a' (k + 1) c') (k + 1) (brCells (brs s (k + 1))) := by
        refine ⟨hw3.trans hb4, ?_⟩
        rw [brs_succ, HX.out]
        simpa [brCells] using hown4
      have HFIN := Lib.hid hfin
      have HR := Lib.hid hrun
      clear hfin hrun hown4 hb4 e1 e2 e3 e4 b1 b2 hb3 h12 h13 hw3
      go_wp2_with (at_builtin; refine wpList_append_run rfl (.tmp 32) (.tmp 48) 73 73 rfl rfl rfl HR.out ?_)
      go_roundw
      case rel => exact ⟨k + 1, p + 8, by omega, by omega, by go_num, HFIN.out.1, HFIN.out.2⟩
      case measure => simp [intOf]; omega
    · obtain rfl : k = m := by omega
      have hsl : SlAt rpBr wr (.slice a k c) (brs s k) := SlAt.of_br hown (fun x hx => by
        obtain ⟨i, _, rfl⟩ := List.mem_map.1 hx
        exact brAt_ok s i)
      have hob : ∀ j, (Value.slice a k c).ownBlock = some j → w.heap.size ≤ j := fun j hj => (hown.lt j hj).1
      have HOB := Lib.hid hob
      have HW := Lib.hid hbw
      have HS := Lib.hid hsl
      clear hbw hown hsl hob
      go_wp2_with fail
      refine (lput_any _ _ _ HS.out).mono ?_
      rintro e w1 ⟨rfl, hb1⟩
      have hw1 := HW.out.trans (hb1.mono HW.out.size)
      have hs1 := HS.out.below hb1
      have H1 := Lib.hid (And.intro hw1 hs1)
      clear hw1 hs1 hb1
      by_cases hk1 : k < 1
      · rw [lockPut_count (.inl (by rw [brs_len]; exact hk1))]
        go_wp2
        go_ret2
        exact get_none (lockGet_len (fun h => by have := h.1; rw [HF.out] at this; omega)) H1.out.1
      · have hok : okLen s := ⟨by rw [HF.out]; omega, by rw [HF.out]; omega, by rw [HF.out]; exact hlen⟩
        have HOK := Lib.hid hok
        clear hok
        cases hany : (brs s k).any tooHigh
        · rw [lockPut_ok (by rw [brs_len]; omega) hany]
          have HA := Lib.hid hany
          clear hany
          go_wp2
          go_ret2
          exact get_some (by have := lockGet_ok HOK.out (by rw [HF.out]; exact HA.out); rw [HF.out] at this; exact this) H1.out.2 H1.out.1 HOB.out
        · rw [lockPut_range (by rw [brs_len]; omega) hany]
          have HA := Lib.hid hany
          clear hany
          go_wp2
          go_ret2
          exact get_none (lockGet_high (by rw [HF.out]; exact HA.out)) H1.out.1

end Go.Proofs.YtmakghcoehkphaaGreat
end

section
/-
  Locks, the fourth part: the document's Get. Conditions: none beyond each theorem's own.
-/
namespace Go.Proofs.YtmakghcoehkphaaGreat
open Go.RowKit
set_option linter.unusedVariables false

def RGetIs (s : ByteArray) (w : World) (e : Ending) (w' : World) : Prop := ∃ v, e = .returned v ∧ SlAt rpBr w' v ((lockGet s).getD []) ∧ Below w.heap.size w w'
theorem rget_none {s : ByteArray} {w w' : World} (h : lockGet s = none) (hb : Below w.heap.size w w') : RGetIs s w (.returned (.slice none 0 0)) w' := by
  unfold RGetIs
  rw [h]
  exact ⟨_, rfl, sl_nil, hb⟩
theorem rget_some {s : ByteArray} {w w' : World} {l : List PBr} {v : Value} (h : lockGet s = some l) (hv : SlAt rpBr w' v l) (hb : Below w.heap.size w w') : RGetIs s w (.returned v) w' := by
  unfold RGetIs
  rw [h]
  exact ⟨_, rfl, hv, hb⟩

end Go.Proofs.YtmakghcoehkphaaGreat
end

section
/-
  Locks, the fifth part: witnesses. Conditions: none beyond each theorem's own.
-/
namespace Go.Proofs.YtmakghcoehkphaaGreat
open Go.RowKit Go.BigFrame
set_option linter.unusedVariables false

/-- The branch and the tag of a witness. -/
def signedOf (ws : List ByteArray) : Option (Nat × Nat) :=
  match ws with
  | [x] => match x.data.toList with
    | [a, b, c] => if a.toNat < 3 then some (a.toNat, b.toNat + 256 * c.toNat) else none
    | _ => none
  | _ => none
def SignedIs (ws : List ByteArray) (w : World) (e : Ending) (w' : World) : Prop :=
  e = .returned (.tuple #[.int .i64 ((signedOf ws).getD (0, 0)).1, .int .u16 ((signedOf ws).getD (0, 0)).2, .int .i64 (if (signedOf ws).isSome then 0 else 4)]) ∧ Below w.heap.size w w'
theorem signed_none {ws : List ByteArray} {w w' : World} (h : signedOf ws = none) (hb : Below w.heap.size w w') : SignedIs ws w (.returned (.tuple #[.int .i64 0, .int .u16 0, .int .i64 4])) w' := by
  unfold SignedIs; rw [h]; exact ⟨rfl, hb⟩
theorem signed_some {ws : List ByteArray} {w w' : World} {n t : Nat} (h : signedOf ws = some (n, t)) (hb : Below w.heap.size w w') : SignedIs ws w (.returned (.tuple #[.int .i64 n, .int .u16 t, .int .i64 0])) w' := by
  unfold SignedIs; rw [h]; exact ⟨rfl, hb⟩
theorem signedOf_len {ws : List ByteArray} (h : ws.length ≠ 1) : signedOf ws = none := by
  unfold signedOf
  split
  · simp at h
  · rfl
theorem signedOf_size {x : ByteArray} (h : x.size ≠ 3) : signedOf [x] = none := by
  unfold signedOf
  dsimp only
  split
  · rename_i a b c hx
    exact absurd (by rw [← data_len, hx]; rfl) h
  · rfl
theorem signedOf_three {x : ByteArray} {a b c : UInt8} (h : x.data.toList = [a, b, c]) : signedOf [x] = if a.toNat < 3 then some (a.toNat, b.toNat + 256 * c.toNat) else none := by
  unfold signedOf
  dsimp only
  rw [h]
theorem three_of {x : ByteArray} (h : x.size = 3) : ∃ a b c, x.data.toList = [a, b, c] := by
  have hl := data_len x
  rw [h] at hl
  match hx : x.data.toList, hl with
  | [a, b, c], _ => exact ⟨a, b, c, rfl⟩
theorem get_at {x : ByteArray} {l : List UInt8} (h : x.data.toList = l) {i : Nat} (hi : i < x.size) (hl : i < l.length) : (x[i]'hi) = l[i] := by
  subst h; exact byte_eq rfl
theorem getN_three {x : ByteArray} {a b c : UInt8} (h : x.data.toList = [a, b, c]) : getN x 1 2 = b.toNat + 256 * c.toNat := by
  unfold getN
  rw [h]
  simp [leN]

set_option maxRecDepth 100000 in
set_option maxHeartbeats 1000000 in
theorem signed_any (v : Value) (ws : List ByteArray) (w : World) (hv : SlAt rpStr w v ws) : Calls Tryz.prog 90 #[v] w (SignedIs ws w) := by
  obtain ⟨a, c, rfl, hl1, hl2⟩ := hv.shape
  rw [maxLen_eq] at hl2
  by_cases h1 : ws.length = 1
  case neg =>
    have hne : ((ws.length : Int) != 1) = true := by rw [bne_iff_ne]; omega
    have hno := signedOf_len h1
    have HNO := Lib.hid hno
    clear hno hv h1
    go_enter Tryz.func90, Tryz.ntmps90
    go_wp2
    go_ret3
    exact signed_none HNO.out (Below.refl _ _)
  obtain ⟨x, rfl⟩ : ∃ x, ws = [x] := List.length_eq_one_iff.1 h1
  obtain ⟨b, o, x', rfl, hx', hxl, hc0⟩ := hv.str (i := 0) (by simp)
  obtain rfl : x = x' := by simpa using hx'
  rw [Nat.add_zero] at hc0
  have hne : (((([x] : List ByteArray).length : Nat) : Int) != 1) = false := by simp
  have hlen : ([x] : List ByteArray).length = 1 := rfl
  rw [hlen] at hl1 ⊢
  clear hv h1 hx' hne hlen
  by_cases h3 : x.size = 3
  case neg =>
    have hne : ((x.size : Int) != 3) = true := by rw [bne_iff_ne]; omega
    have hno := signedOf_size h3
    have HNO := Lib.hid hno
    clear hno h3
    go_enter Tryz.func90, Tryz.ntmps90
    go_wp2
    go_ret3
    exact signed_none HNO.out (Below.refl _ _)
  obtain ⟨p, q, r, hx⟩ := three_of h3
  have hs := signedOf_three hx
  have hsz : 0 < x.size := by omega
  have hx0 : (x[0]'hsz) = p := get_at hx hsz (by simp)
  have hgn := getN_three hx
  have hg1 := hgn ▸ getN_lt x 1 2
  have hn2 := fun w => number_any x 1 2 (.inr (.inl rfl)) hxl (by omega) w
  rw [hgn] at hn2
  have HN2 := Lib.hid hn2
  generalize hG : q.toNat + 256 * r.toNat = G at *
  have hp8 := p.toNat_lt
  obtain ⟨m, hm⟩ : ∃ m, p.toNat = m := ⟨_, rfl⟩
  rw [hm] at hs hp8
  have HS := Lib.hid hs
  clear hs hx hG hn2 hgn
  by_cases hm3 : m < 3
  case neg =>
    go_enter Tryz.func90, Tryz.ntmps90
    go_wp2
    go_ret3
    exact signed_none (by rw [HS.out, if_neg hm3]) (Below.refl _ _)
  have hsome : signedOf [x] = some (m, G) := by rw [HS.out, if_pos hm3]
  have HSOME := Lib.hid hsome
  clear hsome
  obtain ⟨C, hC⟩ : ∃ C : World → Prop, C = fun w' => Below w.heap.size w w' := ⟨_, rfl⟩
  have hlt := World.block_lt_of_cell? _ _ hc0
  have hk0 : ∀ x' : Kin C, x'.w.cell? ⟨b, o, none⟩ = some (.string x) := by
    intro ⟨x', h⟩; subst hC; exact (h.cell hlt).trans hc0
  have hstep : ∀ (x : Kin C) (w' : World), Below x.w.heap.size x.w w' → C w' := by
    intro ⟨x, h⟩ w' h2; subst hC; exact h.trans (h2.mono h.size)
  have HST := Lib.hid hstep
  have HC := Lib.hid hC
  clear hstep hC hlt
  go_enter Tryz.func90, Tryz.ntmps90
  go_wp2_with fail
  refine wp_region_kin C (by kernel_rfl) (by kernel_rfl) (by rw [HC.out]; exact (Below.refl _ _).drew) ?_
  intro hne
  repeat (first | (go_big_quiet_step ((rename_i x'; go_at_call 127; exact Calls.kin (HN2.out _) (HST.out x')))) | (quiet_step ((rename_i x'; go_at_call 127; exact Calls.kin (HN2.out _) (HST.out x')))))
  refine wpQuiet_nil ?_
  intro _ hw'
  obtain ⟨kx, hw''⟩ := hw'
  subst hw''
  have hget : ∀ y, C y → Below w.heap.size w y := by intro y h; rw [HC.out] at h; exact h
  have HF := Lib.hid (hget _ kx.has)
  clear hget
  go_wp2
  go_ret3
  exact signed_some HSOME.out HF.out

end Go.Proofs.YtmakghcoehkphaaGreat
end

section
/-
  Locks, the sixth part: the document's witnesses, and how both sign. Conditions: none beyond each theorem's own.
-/
namespace Go.Proofs.YtmakghcoehkphaaGreat
open Go.RowKit Go.BigFrame
set_option linter.unusedVariables false

def RSignedIs (ws : List ByteArray) (w : World) (e : Ending) (w' : World) : Prop :=
  e = .returned (.tuple #[.int .i64 (match signedOf ws with | some (n, _) => n | none => -1), .int .i64 ((signedOf ws).getD (0, 0)).2]) ∧ Below w.heap.size w w'
theorem rsigned_none {ws : List ByteArray} {w w' : World} (h : signedOf ws = none) (hb : Below w.heap.size w w') : RSignedIs ws w (.returned (.tuple #[.int .i64 (-1), .int .i64 0])) w' := by
  unfold RSignedIs; rw [h]; exact ⟨rfl, hb⟩
theorem rsigned_some {ws : List ByteArray} {w w' : World} {n t : Nat} {t' : Int} (h : signedOf ws = some (n, t)) (ht : t' = t) (hb : Below w.heap.size w w') : RSignedIs ws w (.returned (.tuple #[.int .i64 n, .int .i64 t'])) w' := by
  subst ht; unfold RSignedIs; rw [h]; exact ⟨rfl, hb⟩

/-- A slice of one string, in memory just made. -/
theorem sl_one {w w' : World} {s : ByteArray} (e : TypeId) (hs : s.size ≤ maxLen) : SlAt rpStr (w.alloc (.cells #[.string s] e)) (.slice (some ⟨w.heap.size, 0, none⟩) 1 1) [s] := by
  refine ⟨_, 1, rfl, Nat.le_refl _, by decide, fun i x hi => ?_⟩
  have h0 : i = 0 := by have := (List.getElem?_eq_some_iff.1 hi).1; simpa using this
  subst h0
  obtain rfl : s = x := by simpa using hi
  refine ⟨_, 0, [.string s], rfl, rfl, fun j u hj => ?_, rfl, hs⟩
  have hj0 : j = 0 := by have := (List.getElem?_eq_some_iff.1 hj).1; simpa using this
  subst hj0
  rw [cell_at (heap_alloc_new w _)]
  simpa using hj

/-- The witness of a branch and a tag. -/
def signW (n t : Nat) : ByteArray := ⟨(leB n 1 ++ leB t 2).toArray⟩
theorem signW_size (n t : Nat) : (signW n t).size = 3 := by simp [signW, ByteArray.size, leB_length]
def SignIs (n t : Nat) (w : World) (e : Ending) (w' : World) : Prop := ∃ v, e = .returned (.tuple #[v, .int .i64 0]) ∧ SlAt rpStr w' v [signW n t] ∧ Below w.heap.size w w'

set_option maxRecDepth 100000 in
set_option maxHeartbeats 1000000 in
theorem sign_no (n : Int) (t : Nat) (h : n < 0 ∨ 3 ≤ n) (w : World) : Calls Tryz.prog 92 #[.int .i64 n, .int .u16 t] w fun e w' => e = .returned (.tuple #[.slice none 0 0, .int .i64 2]) ∧ w = w' := by
  go_enter Tryz.func92, Tryz.ntmps92
  by_cases h0 : n < 0
  · clear h
    go_wp2
    go_ret2
    exact ⟨rfl, rfl⟩
  · have h3 : 3 ≤ n := by omega
    clear h
    go_wp2
    go_ret2
    exact ⟨rfl, rfl⟩

set_option maxRecDepth 100000 in
set_option maxHeartbeats 1000000 in
theorem sign_yes (n t : Nat) (h : n < 3) (ht : t < 65536) (w : World) : Calls Tryz.prog 92 #[.int .i64 n, .int .u16 t] w (SignIs n t w) := by
  go_enter Tryz.func92, Tryz.ntmps92
  go_wp2_with fail
  refine (put1_any n (by omega) _).mono ?_
  rintro e w1 ⟨rfl, hb1⟩
  have HB1 := Lib.hid hb1
  clear hb1
  go_wp2_with fail
  refine (put2_any t (by omega) _).mono ?_
  rintro e w2 ⟨rfl, hb2⟩
  have HB2 := Lib.hid hb2
  clear hb2
  go_wp2
  go_ret2
  have h12 := HB1.out.trans (HB2.out.mono HB1.out.size)
  exact ⟨_, rfl, sl_one (s := signW n t) _ (by rw [signW_size]; decide) (w' := w), h12.alloc h12.size _⟩

theorem leB_small (m : Nat) : leB m 2 = [UInt8.ofNat m, UInt8.ofNat (m / 256)] := by simp [leB]
theorem bytes3_row (a b c : Nat) : bytesOf [UInt8.ofNat a, UInt8.ofNat b, UInt8.ofNat c] = [.int .u8 ((a : Int) % 256), .int .u8 ((b : Int) % 256), .int .u8 ((c : Int) % 256)] := by
  simp [bytesOf]

def RSignIs (n t : Nat) (w : World) (e : Ending) (w' : World) : Prop := ∃ v, e = .returned v ∧ SlAt rpStr w' v [signW n t] ∧ Below w.heap.size w w'
theorem three_bytes (w : World) (a b c : Nat) (ha : a < 256) (hb : b < 256) (hc : c < 256) : (convert 102 9 (.slice (some ⟨w.heap.size, 0, none⟩) 3 3)).run Tryz.prog (w.alloc (.cells #[.int .u8 a, .int .u8 b, .int .u8 c] 5)) =
    .ok (.string ⟨[UInt8.ofNat a, UInt8.ofNat b, UInt8.ofNat c].toArray⟩) (w.alloc (.cells #[.int .u8 a, .int .u8 b, .int .u8 c] 5)) := by
  refine convert_bytes (base := 0) ⟨by simp [bytesOf], .inr ⟨w.heap.size, 3, _, rfl, Nat.zero_le _, heap_alloc_new w _, Nat.le_refl _, by decide, rfl, ?_⟩⟩
  rw [bytes3_row, Int.emod_eq_of_lt (by omega) (by omega), Int.emod_eq_of_lt (by omega) (by omega), Int.emod_eq_of_lt (by omega) (by omega)]
  rfl

set_option maxRecDepth 100000 in
set_option maxHeartbeats 1000000 in
theorem rsign_any (n t : Nat) (h : n < 3) (ht : t < 65536) (w : World) : Calls Tryz.prog 41 #[.int .i64 n, .int .u16 t] w (RSignIs n t w) := by
  have hcv := three_bytes w n (t % 256) (t / 256) (by omega) (by omega) (by omega)
  have e1 : (t : Int).tmod 256 = ((t % 256 : Nat) : Int) := by rw [Int.tmod_eq_emod_of_nonneg (by omega)]; omega
  have e2 : (t : Int).tdiv 256 = ((t / 256 : Nat) : Int) := by rw [Int.tdiv_eq_ediv_of_nonneg (by omega)]; omega
  have hq : t / 256 < 256 := by omega
  have hr : t % 256 < 256 := by omega
  have hw : signW n t = ⟨[UInt8.ofNat n, UInt8.ofNat (t % 256), UInt8.ofNat (t / 256)].toArray⟩ := by
    unfold signW
    congr 2
    have h8 : UInt8.ofNat t = UInt8.ofNat (t % 256) := UInt8.toNat_inj.1 (by simp)
    simp [leB, ← h8]
  have HW := Lib.hid hw
  clear hw
  generalize t % 256 = r at *
  generalize t / 256 = q at *
  go_enter Tryz.func41, Tryz.ntmps41
  go_wp2
  go_ret
  have := sl_one (w := w.alloc (.cells #[.int .u8 n, .int .u8 r, .int .u8 q] 5)) (s := signW n t) 9 (by rw [signW_size]; decide) (w' := w)
  rw [HW.out] at this
  unfold RSignIs
  rw [HW.out]
  exact ⟨_, rfl, by simpa using this, ((Below.refl _ _).alloc (Nat.le_refl _) _).alloc (by simp) _⟩

end Go.Proofs.YtmakghcoehkphaaGreat
end

section
/-
  Locks, the seventh part: equal slices; the Sequence. Conditions: none beyond each theorem's own.
-/
namespace Go.Proofs.YtmakghcoehkphaaGreat
open Go.RowKit Go.BigFrame
set_option linter.unusedVariables false

instance : DecidableEq PBr := fun a b => match a, b with | ⟨a1, a2, a3⟩, ⟨b1, b2, b3⟩ => if h : a1 = b1 ∧ a2 = b2 ∧ a3 = b3 then .isTrue (by obtain ⟨rfl, rfl, rfl⟩ := h; rfl) else .isFalse (by intro e; cases e; exact h ⟨rfl, rfl, rfl⟩)

def brEq (a b c a' b' c' : Int) : Bool := decide (a = a' ∧ b = b' ∧ c = c')
@[go_sem] theorem eq_br (a b c a' b' c' : Int) (w : World) : (Op.equalIn 10000 32 (.agg #[.int .u16 a, .int .u16 b, .int .u32 c]) (.agg #[.int .u16 a', .int .u16 b', .int .u32 c'])).run Tryz.prog w = .ok (brEq a b c a' b' c') w := by
  unfold brEq
  have u1 := Tryz.underlying26
  have u2 := Tryz.underlying23
  have hS : Tryz.prog.underlying 32 = some (.struct (Tryz.prog.fieldsOf 32)) := by kernel_rfl
  have hp : Tryz.prog.stoodInHeld 32 = false := by kernel_rfl
  rw [show (10000 : Nat) = 9999 + 1 from rfl, run_equalIn_agg w 9999 32 _ _ hS hp]
  simp only [Program.fieldsOf, Tryz.underlying32]
  go_simp
  by_cases h1 : a = a' <;> by_cases h2 : b = b' <;> by_cases h3 : c = c' <;> simp [h1, h2, h3]
attribute [-go_sem] run_equalIn_agg
theorem guard_br : Tryz.prog.eqGuardType Tryz.prog.depth 32 = false := by kernel_rfl

theorem lists_eq_of {α : Type} {xs ys : List α} {n : Nat} (h1 : xs.length = n) (h2 : ys.length = n) (h : ∀ i, i < n → xs[i]? = ys[i]?) : xs = ys := by
  apply List.ext_getElem?
  intro i
  rcases Nat.lt_or_ge i n with hi | hi
  · exact h i hi
  · rw [List.getElem?_eq_none (by omega), List.getElem?_eq_none (by omega)]

end Go.Proofs.YtmakghcoehkphaaGreat
end

section
/-
  Locks, the eighth part: equal texts; the Sequence; transactions as data. Conditions: none beyond each theorem's own.
-/
namespace Go.Proofs.YtmakghcoehkphaaGreat
open Go.RowKit Go.BigFrame
set_option linter.unusedVariables false

theorem sequence_any (tg dl hg : Nat) (w : World) (hd : dl < 65536) : Calls Tryz.prog 67 #[.agg #[.int .u16 tg, .int .u16 dl, .int .u32 hg]] w fun e w' => e = .returned (.int .u32 (if 0 < dl then (dl : Int) else 4294967293)) ∧ Below w.heap.size w w' := by
  by_cases h : 0 < dl
  · rw [if_pos h]
    go_enter Tryz.func67, Tryz.ntmps67
    go_wp2
    go_ret
    exact ⟨rfl, (Below.refl _ _).alloc (Nat.le_refl _) _⟩
  · rw [if_neg h]
    go_enter Tryz.func67, Tryz.ntmps67
    go_wp2
    go_ret
    exact ⟨rfl, (Below.refl _ _).alloc (Nat.le_refl _) _⟩

def waitsOf (t : PTx) (i : Nat) : Nat := match t.ins[i]? with | some x => if x.seq < 2147483648 ∧ 2 ≤ t.ver then x.seq % 65536 else 0 | none => 0
theorem waitsOf_lt (t : PTx) (i : Nat) : waitsOf t i < 65536 := by
  unfold waitsOf
  split
  · split
    · exact Nat.mod_lt _ (by omega)
    · omega
  · omega

end Go.Proofs.YtmakghcoehkphaaGreat
end

section
/-
  Locks, the ninth part: how long an input waits. Conditions: none beyond each theorem's own.
-/
namespace Go.Proofs.YtmakghcoehkphaaGreat
open Go.RowKit Go.BigFrame
set_option linter.unusedVariables false

theorem and_u32 (a : Nat) (ha : a < 4294967296) : bits .and .u32 (a : Int) 65535 = ((a % 65536 : Nat) : Int) := by
  have h1 : (BitVec.ofInt 32 (a : Int)).toNat = a := by
    rw [BitVec.ofInt_natCast, BitVec.toNat_ofNat]; exact Nat.mod_eq_of_lt (by omega)
  have h2 : (BitVec.ofInt 32 (65535 : Int)).toNat = 65535 := by decide
  have h3 : a &&& 65535 = a % 65536 := Nat.and_two_pow_sub_one_eq_mod a 16
  show IntKind.u32.wrap ((BitVec.ofInt 32 (a : Int) &&& BitVec.ofInt 32 (65535 : Int)).toNat : Int) = _
  rw [BitVec.toNat_and, h1, h2, h3]
  have : a % 65536 < 65536 := Nat.mod_lt _ (by omega)
  rw [IntKind.wrap_u32]
  omega

theorem waitsOf_at {t : PTx} {i : Nat} {x : PIn} (h : t.ins[i]? = some x) : waitsOf t i = if x.seq < 2147483648 ∧ 2 ≤ t.ver then x.seq % 65536 else 0 := by
  unfold waitsOf; rw [h]

set_option maxRecDepth 100000 in
set_option maxHeartbeats 1000000 in
theorem waits_any (v : Value) (t : PTx) (i : Nat) (w : World) (hv : TxAt w v t) (hi : i < t.ins.length) :
    Calls Tryz.prog 62 #[v, .int .i64 i] w fun e w' => e = .returned (.int .i64 (waitsOf t i)) ∧ Below w.heap.size w w' := by
  obtain ⟨b, o, n, c, au, nu, cu, x, wv, rfl, hn, hnm, hx, hs, hv1, hv2, -, hc, -⟩ := tx_in hv hi
  rw [waitsOf_at hx]
  obtain ⟨ver, ins, outs, lock⟩ := t
  dsimp only at *
  rw [← hn] at hi
  generalize x.seq = s at *
  have hand := and_u32 s hs
  have hm : s % 65536 < 65536 := Nat.mod_lt _ (by omega)
  generalize s % 65536 = r at *
  have hc' := fun ob => cell_over hc ob
  clear hn hx hv hc hs hv1 hv2
  by_cases h1 : s < 2147483648
  · have hI : ((s : Int) < 2147483648) = True := eq_true (by omega)
    have hJ : ((2147483648 : Int) ≤ (s : Int)) = False := eq_false (by omega)
    by_cases h2 : 2 ≤ ver
    · rw [if_pos ⟨h1, h2⟩]
      clear h1
      go_enter Tryz.func62, Tryz.ntmps62
      go_wp2
      go_ret
      exact ⟨ret_int (by omega), (Below.refl _ _).alloc (Nat.le_refl _) _⟩
    · rw [if_neg (fun h => h2 h.2)]
      clear h1
      go_enter Tryz.func62, Tryz.ntmps62
      go_wp2
      go_ret
      exact ⟨rfl, (Below.refl _ _).alloc (Nat.le_refl _) _⟩
  · rw [if_neg (fun h => h1 h.1)]
    have hI : ((s : Int) < 2147483648) = False := eq_false (by omega)
    have hJ : ((2147483648 : Int) ≤ (s : Int)) = True := eq_true (by omega)
    clear h1
    go_enter Tryz.func62, Tryz.ntmps62
    go_wp2
    go_ret
    exact ⟨rfl, (Below.refl _ _).alloc (Nat.le_refl _) _⟩

def isIn (t : PTx) (i : Int) : Bool := decide (0 ≤ i ∧ i < t.ins.length)
set_option maxHeartbeats 1000000 in
theorem is_any (v : Value) (t : PTx) (i : Int) (w : World) (hv : TxAt w v t) :
    Calls Tryz.prog 60 #[v, .int .i64 i] w fun e w' => e = .returned (.bool (isIn t i)) ∧ Below w.heap.size w w' := by
  obtain ⟨a, u, rfl, h1, h2, -, -⟩ := hv
  obtain ⟨au, cu, rfl, -, -⟩ := h2.shape
  obtain ⟨a', c, rfl, hl1, hl2⟩ := h1.shape
  rw [maxLen_eq] at hl2
  unfold isIn
  generalize t.ins.length = n at *
  generalize t.outs.length = nu at *
  clear h1 h2
  go_enter Tryz.func60, Tryz.ntmps60
  by_cases h0 : 0 ≤ i
  · go_wp2
    go_ret
    exact ⟨ret_bool (by simp; try omega), (Below.refl _ _).alloc (Nat.le_refl _) _⟩
  · go_wp2
    go_ret
    exact ⟨ret_bool (by simp; try omega), (Below.refl _ _).alloc (Nat.le_refl _) _⟩

def okHeight (n : Int) : Bool := decide (0 ≤ n ∧ n ≤ 1000000)
end Go.Proofs.YtmakghcoehkphaaGreat
end

section
/-
  Locks, the tenth part: the branch that a witness opens. Conditions: none beyond each theorem's own.
-/
namespace Go.Proofs.YtmakghcoehkphaaGreat
open Go.RowKit Go.BigFrame
set_option linter.unusedVariables false

theorem lget_none {s : ByteArray} (h : lockGet s = none) (hs : s.size ≤ 9223372036854775807) (w : World) : Calls Tryz.prog 89 #[.string s] w fun e w' => ∃ v, e = .returned (.tuple #[v, .int .i64 4]) ∧ Below w.heap.size w w' :=
  (lget_any s hs w).mono fun e w' ⟨v, h1, h2, h3, _⟩ => ⟨v, by rw [h1, h]; rfl, h3⟩
theorem lget_some {s : ByteArray} {l : List PBr} (h : lockGet s = some l) (hs : s.size ≤ 9223372036854775807) (w : World) : Calls Tryz.prog 89 #[.string s] w fun e w' => ∃ v, e = .returned (.tuple #[v, .int .i64 0]) ∧ SlAt rpBr w' v l ∧ (∀ k, v.ownBlock = some k → w.heap.size ≤ k) ∧ Below w.heap.size w w' :=
  (lget_any s hs w).mono fun e w' ⟨v, h1, h2, h3, h4⟩ => ⟨v, by rw [h1, h]; rfl, by rw [h] at h2; exact h2, h4, h3⟩
theorem lsig_none {v : Value} {ws : List ByteArray} {w : World} (h : signedOf ws = none) (hv : SlAt rpStr w v ws) : Calls Tryz.prog 90 #[v] w fun e w' => e = .returned (.tuple #[.int .i64 0, .int .u16 0, .int .i64 4]) ∧ Below w.heap.size w w' :=
  (signed_any v ws w hv).mono fun e w' ⟨h1, h3⟩ => ⟨by rw [h1, h]; rfl, h3⟩
theorem lsig_some {v : Value} {ws : List ByteArray} {w : World} {n t : Nat} (h : signedOf ws = some (n, t)) (hv : SlAt rpStr w v ws) : Calls Tryz.prog 90 #[v] w fun e w' => e = .returned (.tuple #[.int .i64 n, .int .u16 t, .int .i64 0]) ∧ Below w.heap.size w w' :=
  (signed_any v ws w hv).mono fun e w' ⟨h1, h3⟩ => ⟨by rw [h1, h]; rfl, h3⟩

/-- The branch that a witness opens, and whether it may. -/
def chosenOf (s : ByteArray) (ws : List ByteArray) : PBr × Bool :=
  match lockGet s, signedOf ws with
  | some l, some (n, t) => match l[n]? with | some x => (x, x.tag == 0 || x.tag == t) | none => (⟨0, 0, 0⟩, false)
  | _, _ => (⟨0, 0, 0⟩, false)
def brV (x : PBr) : Value := .agg #[.int .u16 x.tag, .int .u16 x.delay, .int .u32 x.height]
def ChosenIs (s : ByteArray) (ws : List ByteArray) (w : World) (e : Ending) (w' : World) : Prop := e = .returned (.tuple #[brV (chosenOf s ws).1, .bool (chosenOf s ws).2]) ∧ Below w.heap.size w w'
theorem chosen_is {s : ByteArray} {ws : List ByteArray} {w w' : World} {x : PBr} {b b' : Bool} (h : chosenOf s ws = (x, b)) (hbb : b' = b) (hb : Below w.heap.size w w') : ChosenIs s ws w (.returned (.tuple #[.agg #[.int .u16 x.tag, .int .u16 x.delay, .int .u32 x.height], .bool b'])) w' := by
  unfold ChosenIs; rw [h, hbb]; exact ⟨rfl, hb⟩
theorem signedOf_lt {ws : List ByteArray} {n t : Nat} (h : signedOf ws = some (n, t)) : n < 3 ∧ t < 65536 := by
  unfold signedOf at h
  split at h
  · rename_i x
    split at h
    · rename_i a b c hx
      split at h
      · rename_i h3
        obtain ⟨rfl, rfl⟩ : a.toNat = n ∧ b.toNat + 256 * c.toNat = t := by simpa using h
        have := b.toNat_lt
        have := c.toNat_lt
        exact ⟨h3, by omega⟩
      · cases h
    · cases h
  · cases h

theorem lsig_ex {v : Value} {ws : List ByteArray} {w : World} (hv : SlAt rpStr w v ws) : Calls Tryz.prog 90 #[v] w fun e w' => ∃ (n t x : Int), e = .returned (.tuple #[.int .i64 n, .int .u16 t, .int .i64 x]) ∧ Below w.heap.size w w' :=
  (signed_any v ws w hv).mono fun e w' ⟨h1, h3⟩ => ⟨_, _, _, h1, h3⟩

set_option maxRecDepth 100000 in
set_option maxHeartbeats 2000000 in
theorem chosen_any (s : ByteArray) (hs : s.size ≤ 9223372036854775807) (v : Value) (ws : List ByteArray) (w : World) (hv : SlAt rpStr w v ws) :
    Calls Tryz.prog 61 #[.string s, v] w (ChosenIs s ws w) := by
  obtain ⟨va, vc, rfl, -, -⟩ := hv.shape
  have HV := Lib.hid hv
  have hb0 : ∀ ob, Below w.heap.size w (w.alloc ob) := fun ob => (Below.refl _ _).alloc (Nat.le_refl _) ob
  have HB0 := Lib.hid hb0
  have hcl : ∀ ob w1, Below (w.alloc ob).heap.size (w.alloc ob) w1 → w1.heap[w.heap.size]? = some ob := fun ob w1 h => (h.block w.heap.size (by simp)).trans (heap_alloc_new w ob)
  have HCL := Lib.hid hcl
  clear hv hb0 hcl
  have hno : (lockGet s = none ∨ signedOf ws = none) → chosenOf s ws = (⟨0, 0, 0⟩, false) := by
    rintro (h | h) <;> unfold chosenOf <;> rw [h]
    split <;> rename_i h1 <;> simp_all
  have HNO := Lib.hid hno
  clear hno
  cases hg : lockGet s with
  | none =>
    have HC := Lib.hid (lget_none hg hs)
    have HG := Lib.hid hg
    clear hg
    go_enter Tryz.func61, Tryz.ntmps61
    go_wp2_with fail
    refine (HC.out _).mono ?_
    rintro e w1 ⟨u, rfl, hb1⟩
    have hblk := HCL.out _ _ hb1
    have hw1 := (HB0.out _).trans (hb1.mono (by simp))
    have HW1 := Lib.hid hw1
    have HK1 := Lib.hid hblk
    clear hb1 hblk hw1
    have HV1 := Lib.hid (HV.out.below HW1.out)
    go_wp2_with fail
    refine (lsig_ex HV1.out).mono ?_
    rintro e w2 ⟨n, t, x, rfl, hb2⟩
    have hblk2 : w2.heap[w.heap.size]? = some (.cells #[.int .u16 0, .int .u16 0, .int .u32 0] 32) := (hb2.block _ (Array.getElem?_eq_some_iff.1 HK1.out).1).trans HK1.out
    have c0 : w2.cell? ⟨w.heap.size, 0, none⟩ = some (.int .u16 0) := cell_at hblk2
    have c1 : w2.cell? ⟨w.heap.size, 1, none⟩ = some (.int .u16 0) := cell_at hblk2
    have c2 : w2.cell? ⟨w.heap.size, 2, none⟩ = some (.int .u32 0) := cell_at hblk2
    have f0 : w2.frozen? ⟨w.heap.size, 0, none⟩ = false := free_at hblk2
    have f1 : w2.frozen? ⟨w.heap.size, 1, none⟩ = false := free_at hblk2
    have f2 : w2.frozen? ⟨w.heap.size, 2, none⟩ = false := free_at hblk2
    have hw2 := HW1.out.trans (hb2.mono HW1.out.size)
    have HW2 := Lib.hid hw2
    clear hb2 hblk2 hw2
    go_wp2
    exact bodyPost_ret (v := .tuple #[.agg #[.int .u16 (0 : Nat), .int .u16 (0 : Nat), .int .u32 (0 : Nat)], .bool false]) (by simp [results, Tryz.results61, go_sem, c0, c1, c2]) rfl (chosen_is (x := ⟨0, 0, 0⟩) (HNO.out (.inl HG.out)) rfl (((HW2.out.setCell (Nat.le_refl _) _).setCell (Nat.le_refl _) _).setCell (Nat.le_refl _) _))
  | some l =>
    have HC := Lib.hid (lget_some hg hs)
    cases hsg : signedOf ws with
    | none =>
      have HG := Lib.hid hsg
      clear hg hsg
      go_enter Tryz.func61, Tryz.ntmps61
      go_wp2_with fail
      refine (HC.out _).mono ?_
      rintro e w1 ⟨u, rfl, hu, hob, hb1⟩
      have hblk := HCL.out _ _ hb1
      have hw1 := (HB0.out _).trans (hb1.mono (by simp))
      have HW1 := Lib.hid hw1
      have HK1 := Lib.hid hblk
      clear hb1 hblk hw1
      have HV1 := Lib.hid (HV.out.below HW1.out)
      clear hu hob
      go_wp2_with fail
      refine (lsig_none HG.out HV1.out).mono ?_
      rintro e w2 ⟨rfl, hb2⟩
      have hblk2 : w2.heap[w.heap.size]? = some (.cells #[.int .u16 0, .int .u16 0, .int .u32 0] 32) := (hb2.block _ (Array.getElem?_eq_some_iff.1 HK1.out).1).trans HK1.out
      have c0 : w2.cell? ⟨w.heap.size, 0, none⟩ = some (.int .u16 0) := cell_at hblk2
      have c1 : w2.cell? ⟨w.heap.size, 1, none⟩ = some (.int .u16 0) := cell_at hblk2
      have c2 : w2.cell? ⟨w.heap.size, 2, none⟩ = some (.int .u32 0) := cell_at hblk2
      have f0 : w2.frozen? ⟨w.heap.size, 0, none⟩ = false := free_at hblk2
      have f1 : w2.frozen? ⟨w.heap.size, 1, none⟩ = false := free_at hblk2
      have f2 : w2.frozen? ⟨w.heap.size, 2, none⟩ = false := free_at hblk2
      have hw2 := HW1.out.trans (hb2.mono HW1.out.size)
      have HW2 := Lib.hid hw2
      clear hb2 hblk2 hw2
      go_wp2
      exact bodyPost_ret (v := .tuple #[.agg #[.int .u16 (0 : Nat), .int .u16 (0 : Nat), .int .u32 (0 : Nat)], .bool false]) (by simp [results, Tryz.results61, go_sem, c0, c1, c2]) rfl (chosen_is (x := ⟨0, 0, 0⟩) (HNO.out (.inr HG.out)) rfl (((HW2.out.setCell (Nat.le_refl _) _).setCell (Nat.le_refl _) _).setCell (Nat.le_refl _) _))
    | some nt =>
      obtain ⟨n, t⟩ := nt
      obtain ⟨hn3, ht⟩ := signedOf_lt hsg
      by_cases hnl : n < l.length
      case neg =>
        have hch : chosenOf s ws = (⟨0, 0, 0⟩, false) := by
          unfold chosenOf; rw [hg, hsg]; dsimp only; rw [List.getElem?_eq_none (by omega)]
        have HCH := Lib.hid hch
        have HG := Lib.hid hsg
        clear hg hsg hch
        go_enter Tryz.func61, Tryz.ntmps61
        go_wp2_with fail
        refine (HC.out _).mono ?_
        rintro e w1 ⟨u, rfl, hu, hob, hb1⟩
        have hblk := HCL.out _ _ hb1
        have hw1 := (HB0.out _).trans (hb1.mono (by simp))
        have HW1 := Lib.hid hw1
        have HK1 := Lib.hid hblk
        clear hb1 hblk hw1
        have HV1 := Lib.hid (HV.out.below HW1.out)
        obtain ⟨ua, uc, rfl, hul, hum⟩ := hu.shape
        rw [maxLen_eq] at hum
        clear hu hob
        go_wp2_with fail
        refine (lsig_some HG.out HV1.out).mono ?_
        rintro e w2 ⟨rfl, hb2⟩
        have hblk2 : w2.heap[w.heap.size]? = some (.cells #[.int .u16 0, .int .u16 0, .int .u32 0] 32) := (hb2.block _ (Array.getElem?_eq_some_iff.1 HK1.out).1).trans HK1.out
        have c0 : w2.cell? ⟨w.heap.size, 0, none⟩ = some (.int .u16 0) := cell_at hblk2
        have c1 : w2.cell? ⟨w.heap.size, 1, none⟩ = some (.int .u16 0) := cell_at hblk2
        have c2 : w2.cell? ⟨w.heap.size, 2, none⟩ = some (.int .u32 0) := cell_at hblk2
        have f0 : w2.frozen? ⟨w.heap.size, 0, none⟩ = false := free_at hblk2
        have f1 : w2.frozen? ⟨w.heap.size, 1, none⟩ = false := free_at hblk2
        have f2 : w2.frozen? ⟨w.heap.size, 2, none⟩ = false := free_at hblk2
        have hw2 := HW1.out.trans (hb2.mono HW1.out.size)
        have HW2 := Lib.hid hw2
        clear hb2 hblk2 hw2
        go_wp2
        exact bodyPost_ret (v := .tuple #[.agg #[.int .u16 (0 : Nat), .int .u16 (0 : Nat), .int .u32 (0 : Nat)], .bool false]) (by simp [results, Tryz.results61, go_sem, c0, c1, c2]) rfl (chosen_is (x := ⟨0, 0, 0⟩) HCH.out rfl (((HW2.out.setCell (Nat.le_refl _) _).setCell (Nat.le_refl _) _).setCell (Nat.le_refl _) _))
      case pos =>
        have hx0 : l[n]? = some l[n] := List.getElem?_eq_getElem hnl
        obtain ⟨y, hy⟩ : ∃ y, l[n]? = some y := ⟨_, hx0⟩
        have hch : chosenOf s ws = (y, y.tag == 0 || y.tag == t) := by
          unfold chosenOf; rw [hg, hsg]; dsimp only; rw [hy]
        have HCH := Lib.hid hch
        have HG := Lib.hid hsg
        have HY := Lib.hid hy
        clear hg hsg hch hx0 hy
        go_enter Tryz.func61, Tryz.ntmps61
        go_wp2_with fail
        refine (HC.out _).mono ?_
        rintro e w1 ⟨u, rfl, hu, hob, hb1⟩
        have hblk := HCL.out _ _ hb1
        have hw1 := (HB0.out _).trans (hb1.mono (by simp))
        have HW1 := Lib.hid hw1
        have HK1 := Lib.hid hblk
        clear hb1 hblk hw1
        have HV1 := Lib.hid (HV.out.below HW1.out)
        obtain ⟨ua, uc, rfl, hul, hum⟩ := hu.shape
        rw [maxLen_eq] at hum
        have HU := Lib.hid hu
        clear hu
        go_wp2_with fail
        refine (lsig_some HG.out HV1.out).mono ?_
        rintro e w2 ⟨rfl, hb2⟩
        obtain ⟨b, o, x, rfl, hx, hxo, d0, d1, d2⟩ := (HU.out.below hb2).br hnl
        have hbne : b ≠ w.heap.size := by have := hob b rfl; simp at this; omega
        obtain rfl : y = x := by have := HY.out; rw [hx] at this; exact (Option.some.inj this).symm
        obtain ⟨y1, y2, y3⟩ := y
        obtain ⟨ht1, ht2, ht3⟩ := hxo
        dsimp only at d0 d1 d2 ht1 ht2 ht3
        have hblk2 : w2.heap[w.heap.size]? = some (.cells #[.int .u16 0, .int .u16 0, .int .u32 0] 32) := (hb2.block _ (Array.getElem?_eq_some_iff.1 HK1.out).1).trans HK1.out
        have c0 : w2.cell? ⟨w.heap.size, 0, none⟩ = some (.int .u16 0) := cell_at hblk2
        have c1 : w2.cell? ⟨w.heap.size, 1, none⟩ = some (.int .u16 0) := cell_at hblk2
        have c2 : w2.cell? ⟨w.heap.size, 2, none⟩ = some (.int .u32 0) := cell_at hblk2
        have f0 : w2.frozen? ⟨w.heap.size, 0, none⟩ = false := free_at hblk2
        have f1 : w2.frozen? ⟨w.heap.size, 1, none⟩ = false := free_at hblk2
        have f2 : w2.frozen? ⟨w.heap.size, 2, none⟩ = false := free_at hblk2
        have hw2 := HW1.out.trans (hb2.mono HW1.out.size)
        have HW2 := Lib.hid hw2
        clear hb2 hblk2 hw2 hx ht3 ht2
        go_wp2_with fail
        have hbne' : ¬ (w.heap.size = b) := fun h => hbne h.symm
        have hfin : ∀ (q : PBr) (bb : Bool) (w3 : World), chosenOf s ws = (q, bb) → Below w.heap.size w w3 → ∀ b', b' = bb → ChosenIs s ws w (.returned (.tuple #[.agg #[.int .u16 q.tag, .int .u16 q.delay, .int .u32 q.height], .bool b'])) w3 := fun q bb w3 h1 h2 b' h3 => chosen_is h1 h3 h2
        have HFIN := Lib.hid hfin
        clear hfin hob
        by_cases hz : y1 = 0
        · subst hz
          go_region
          all_goals
            go_wp2
            exact bodyPost_ret (v := .tuple #[.agg #[.int .u16 (0 : Nat), .int .u16 y2, .int .u32 y3], .bool true]) (by simp [results, Tryz.results61, go_sem, c0, c1, c2]) rfl (HFIN.out ⟨0, y2, y3⟩ _ _ HCH.out (((HW2.out.drew.setCell (Nat.le_refl _) _).setCell (Nat.le_refl _) _).setCell (Nat.le_refl _) _) _ rfl)
        · have hzi : ((y1 : Int) == 0) = false := by rw [beq_eq_false_iff_ne]; omega
          have hbt : ((y1 : Int) == t) = (y1 == 0 || y1 == t) := by
            have : (y1 == 0) = false := by simpa using hz
            rw [this, Bool.false_or, Bool.eq_iff_iff, beq_iff_eq, beq_iff_eq]
            omega
          have HBT := Lib.hid hbt
          clear hbt
          go_region
          all_goals
            go_wp2
            exact bodyPost_ret (v := .tuple #[.agg #[.int .u16 y1, .int .u16 y2, .int .u32 y3], .bool ((y1 : Int) == t)]) (by simp [results, Tryz.results61, go_sem, c0, c1, c2]) rfl (HFIN.out ⟨y1, y2, y3⟩ _ _ HCH.out (((HW2.out.drew.setCell (Nat.le_refl _) _).setCell (Nat.le_refl _) _).setCell (Nat.le_refl _) _) _ HBT.out)

end Go.Proofs.YtmakghcoehkphaaGreat
end

section
/-
  Locks, the eleventh part: does a lock open? Conditions: none beyond each theorem's own.
-/
namespace Go.Proofs.YtmakghcoehkphaaGreat
open Go.RowKit Go.BigFrame
set_option linter.unusedVariables false

def openAt (s : ByteArray) (t : PTx) (k : Nat) (x : PIn) : Int :=
  if (chosenOf s x.wit).2 = false then 9 else if waitsOf t k < (chosenOf s x.wit).1.delay then 10
  else if 0 < (chosenOf s x.wit).1.height ∧ (t.lock < (chosenOf s x.wit).1.height ∨ x.seq = 4294967295) then 10 else 0
def openOf (s : ByteArray) (t : PTx) (i : Int) : Int := if isIn t i then (match t.ins[i.toNat]? with | some x => openAt s t i.toNat x | none => 2) else 2
theorem openOf_no {s : ByteArray} {t : PTx} {i : Int} (h : isIn t i = false) : openOf s t i = 2 := by unfold openOf; rw [h]; rfl
theorem openOf_at {s : ByteArray} {t : PTx} {k : Nat} {x : PIn} (h : t.ins[k]? = some x) : openOf s t k = openAt s t k x := by
  have hk := (List.getElem?_eq_some_iff.1 h).1
  have : isIn t k = true := by unfold isIn; simp; omega
  unfold openOf
  rw [this]
  simp [h]
theorem isIn_nat {t : PTx} {i : Int} (h : isIn t i = true) : ∃ k : Nat, i = k ∧ k < t.ins.length := by
  unfold isIn at h
  simp at h
  exact ⟨i.toNat, by omega, by omega⟩
def OpenIs (s : ByteArray) (t : PTx) (i : Int) (w : World) (e : Ending) (w' : World) : Prop := e = .returned (.int .i64 (openOf s t i)) ∧ Below w.heap.size w w'
theorem open_is {s : ByteArray} {t : PTx} {i n : Int} {w w' : World} (h : openOf s t i = n) (hb : Below w.heap.size w w') : OpenIs s t i w (.returned (.int .i64 n)) w' := by unfold OpenIs; rw [h]; exact ⟨rfl, hb⟩

theorem chosen_lt {s : ByteArray} {ws : List ByteArray} : (chosenOf s ws).1.Ok := by
  have key : ∀ l, lockGet s = some l → ∀ x ∈ l, x.Ok := by
    intro l h x hx
    unfold lockGet at h
    split at h
    · obtain rfl : brs s (firstB s) = l := by simpa using h
      obtain ⟨i, _, rfl⟩ := List.mem_map.1 hx
      exact brAt_ok s i
    · cases h
  unfold chosenOf
  split
  · rename_i l n t hl hs
    split
    · rename_i x hx
      exact key l hl x (List.mem_of_getElem? hx)
    · exact ⟨by decide, by decide, by decide⟩
  · exact ⟨by decide, by decide, by decide⟩

set_option maxRecDepth 100000 in
set_option maxHeartbeats 2000000 in
theorem open_any (s : ByteArray) (hs : s.size ≤ 9223372036854775807) (v : Value) (t : PTx) (i : Int) (w : World) (hv : TxAt w v t) :
    Calls Tryz.prog 28 #[.string s, v, .int .i64 i] w (OpenIs s t i w) := by
  cases hin : isIn t i
  case false =>
    have hv0 := hv
    obtain ⟨a, u, rfl, h1, h2, -, -⟩ := hv0
    obtain ⟨au, cu, rfl, -, -⟩ := h2.shape
    obtain ⟨aa, ca, rfl, -, -⟩ := h1.shape
    have his := fun w' hw' => is_any _ t i w' (hv.mono hw')
    rw [hin] at his
    have HIS := Lib.hid his
    have HO := Lib.hid (openOf_no (s := s) hin)
    clear hv h1 h2 his hin hs
    go_enter Tryz.func28, Tryz.ntmps28
    go_wp2_with fail
    refine (HIS.out _ (fun p v hp => cell_over hp _)).mono ?_
    rintro e w1 ⟨rfl, hb1⟩
    go_wp2
    go_ret
    exact open_is HO.out (((Below.refl _ _).alloc (Nat.le_refl _) _).trans (hb1.mono (by simp)))
  case true =>
    obtain ⟨k, rfl, hk⟩ := isIn_nat hin
    obtain ⟨b, o, n, c, au, nu, cu, x, wv, rfl, hn, hnm, hx, hseq, hver, hlock, hwit, hc2, hc3⟩ := tx_in hv hk
    have his := fun w' hw' => is_any _ t k w' (hv.mono hw')
    rw [hin] at his
    have hwt := fun w' hw' => waits_any _ t k w' (hv.mono hw') hk
    have hwl := waitsOf_lt t k
    have ho := openOf_at (s := s) hx
    obtain ⟨hok1, hok2, hok3⟩ := chosen_lt (s := s) (ws := x.wit)
    have hch := fun w' hw' => chosen_any s hs wv x.wit w' (hwit.mono hw')
    unfold ChosenIs brV at hch
    unfold openAt at ho
    rw [hn.symm] at hk
    obtain ⟨wf, hwf⟩ : ∃ wf, waitsOf t k = wf := ⟨_, rfl⟩
    rw [hwf] at hwt hwl ho
    generalize (chosenOf s x.wit).2 = cb at *
    generalize (chosenOf s x.wit).1.tag = g1 at *
    generalize (chosenOf s x.wit).1.delay = g2 at *
    generalize (chosenOf s x.wit).1.height = g3 at *
    have HIS := Lib.hid his
    have HWT := Lib.hid hwt
    have HCH := Lib.hid hch
    have HO := Lib.hid ho
    clear his hwt hch ho hin hv hx hwit hs hwf hn
    generalize x.seq = sq at *
    generalize t.ver = ver at *
    generalize t.lock = lk at *
    go_enter Tryz.func28, Tryz.ntmps28
    go_wp2_with fail
    refine (HIS.out _ (fun p v hp => cell_over hp _)).mono ?_
    rintro e w1 ⟨rfl, hb1⟩
    have e1 : w1.heap[w.heap.size]? = _ := (hb1.block w.heap.size (by simp)).trans (heap_alloc_new w _)
    have hw1 : Below w.heap.size w w1 := ((Below.refl _ _).alloc (Nat.le_refl _) _).trans (hb1.mono (by simp))
    have hsz1 : w.heap.size < w1.heap.size := (Array.getElem?_eq_some_iff.1 e1).1
    have q0 : w1.cell? ⟨w.heap.size, 0, none⟩ = _ := cell_at e1
    have q1 : w1.cell? ⟨w.heap.size, 1, none⟩ = _ := cell_at e1
    have q2 : w1.cell? ⟨w.heap.size, 2, none⟩ = _ := cell_at e1
    have q3 : w1.cell? ⟨w.heap.size, 3, none⟩ = _ := cell_at e1
    have p2 := below_cells hw1 _ _ hc2
    have p3 := below_cells hw1 _ _ hc3
    have hx1 : Below w1.heap.size w1 w1 := Below.refl _ _
    have HW1 := Lib.hid hw1
    have HMONO := Lib.hid (below_cells hw1)
    have HE1 := Lib.hid e1
    clear hb1 e1 hw1 hx1 hc2 hc3
    go_wp2_with fail
    refine (HCH.out _ HMONO.out).mono ?_
    rintro e w2 ⟨rfl, hb2⟩
    have hsz2 := hb2.size
    have e2 := (hb2.block w.heap.size hsz1).trans HE1.out
    have hw2 := HW1.out.trans (hb2.mono (Nat.le_of_lt hsz1))
    obtain ⟨wa, hwa⟩ : ∃ wa, wa = w2.alloc (.cells #[.int .u16 g1, .int .u16 g2, .int .u32 g3] 32) := ⟨_, rfl⟩
    obtain ⟨C, hC⟩ : ∃ C : World → Prop, C = fun w' => Below (w2.heap.size + 1) wa w' := ⟨_, rfl⟩
    have hwab : Below w2.heap.size w2 wa := by subst hwa; exact (Below.refl _ _).alloc (Nat.le_refl _) _
    have hk0 : ∀ y : Kin C, Below w2.heap.size w2 y.w := by intro ⟨y, h⟩; subst hC; exact hwab.trans (h.mono (Nat.le_succ _))
    have hkw : ∀ y : Kin C, Below w.heap.size w y.w := fun y => hw2.trans ((hk0 y).mono (Nat.le_trans (Nat.le_of_lt hsz1) hsz2))
    have hcx : ∀ (p : Addr) (u : Value), w2.cell? p = some u → ∀ y : Kin C, y.w.cell? p = some u := fun p u hp y => below_cells (hk0 y) p u hp
    have r0 := hcx _ _ (cell_at (j := 0) e2)
    have r1 := hcx _ _ (cell_at (j := 1) e2)
    have r2 := hcx _ _ (cell_at (j := 2) e2)
    have r3 := hcx _ _ (cell_at (j := 3) e2)
    have r5 := hcx _ _ (below_cells hb2 _ _ p2)
    have hnew : ∀ j u, (#[Value.int .u16 g1, .int .u16 g2, .int .u32 g3] : Array Value)[j]? = some u → ∀ y : Kin C, y.w.cell? ⟨w2.heap.size, j, none⟩ = some u := by
      intro j u hj ⟨y, h⟩
      subst hC
      subst hwa
      exact (h.cell (by simp)).trans (by rw [cell_at (heap_alloc_new w2 _)]; exact hj)
    have s0 := hnew 0 _ rfl
    have s1 := hnew 1 _ rfl
    have s2 := hnew 2 _ rfl
    have hstep : ∀ (y : Kin C) (w' : World), Below y.w.heap.size y.w w' → C w' := by
      intro ⟨y, h⟩ w' h2; subst hC; exact h.trans (h2.mono (by have := h.size; rw [hwa] at this; simpa using this))
    have HST := Lib.hid hstep
    have HC := Lib.hid hC
    have HKW := Lib.hid hkw
    have HWM := Lib.hid (fun y : Kin C => below_cells (hkw y))
    have HWA := Lib.hid hwa
    have HW2 := Lib.hid hw2
    clear hb2 e2 hw2 hwab hk0 hkw hcx hnew hstep hC q0 q1 q2 q3 p2 p3
    cases cb
    · have HO2 := Lib.hid HO.out
      clear r0 r1 r2 r3 r5 s0 s1 s2 hwa
      go_wp2_with fail
      go_ret
      exact open_is (by rw [HO.out]; rfl) (HW2.out.alloc HW2.out.size _)
    · go_wp2_with fail
      rw [← hwa]
      clear hwa
      refine wp_region_kin C (by kernel_rfl) (by kernel_rfl) (by rw [HC.out]; exact (Below.refl _ _).drew) ?_
      intro hne
      repeat (first | (go_big_quiet_step ((rename_i y; go_at_call 62; exact Calls.kin (HWT.out _ (HWM.out y)) (HST.out y)))) | (quiet_step ((rename_i y; go_at_call 62; exact Calls.kin (HWT.out _ (HWM.out y)) (HST.out y)))))
      refine wpQuiet_nil ?_
      intro _ hw'
      obtain ⟨kx, hw''⟩ := hw'
      subst hw''
      have HFIN := Lib.hid (HKW.out kx)
      by_cases h1 : wf < g2
      · go_wp2
        go_ret
        exact open_is (by rw [HO.out, if_neg (by decide), if_pos h1]) HFIN.out
      by_cases h2 : 0 < g3
      case neg =>
        go_wp2
        go_ret
        exact open_is (by rw [HO.out, if_neg (by decide), if_neg h1, if_neg (fun h => h2 h.1)]) HFIN.out
      by_cases h3 : lk < g3
      · go_wp2
        go_ret
        exact open_is (by rw [HO.out, if_neg (by decide), if_neg h1, if_pos ⟨h2, .inl h3⟩]) HFIN.out
      by_cases h4 : sq = 4294967295
      · have hb4 : ((sq : Int) == 4294967295) = true := by rw [beq_iff_eq]; omega
        have H4 := Lib.hid h4
        clear h4
        go_wp2
        go_ret
        exact open_is (by rw [HO.out, if_neg (by decide), if_neg h1, if_pos ⟨h2, .inr H4.out⟩]) HFIN.out
      · have hb4 : ((sq : Int) == 4294967295) = false := by rw [beq_eq_false_iff_ne]; omega
        have H4 := Lib.hid h4
        clear h4
        go_wp2
        go_ret
        exact open_is (by rw [HO.out, if_neg (by decide), if_neg h1, if_neg (fun h => h.2.elim h3 H4.out)]) HFIN.out

end Go.Proofs.YtmakghcoehkphaaGreat
end

section
/-
  Locks, the twelfth part: the document's Open. Conditions: none beyond each theorem's own.
-/
namespace Go.Proofs.YtmakghcoehkphaaGreat
open Go.RowKit Go.BigFrame
set_option linter.unusedVariables false

theorem chosen_none {s : ByteArray} {ws : List ByteArray} (h : signedOf ws = none) : chosenOf s ws = (⟨0, 0, 0⟩, false) := by
  unfold chosenOf; rw [h]; split <;> simp_all
theorem chosen_out {s : ByteArray} {ws : List ByteArray} {n t : Nat} (h : signedOf ws = some (n, t)) (hl : ¬ n < ((lockGet s).getD []).length) : chosenOf s ws = (⟨0, 0, 0⟩, false) := by
  unfold chosenOf; rw [h]
  cases hg : lockGet s with
  | none => rfl
  | some l =>
    rw [hg] at hl
    dsimp only
    rw [List.getElem?_eq_none (by simpa using hl)]
theorem chosen_in {s : ByteArray} {ws : List ByteArray} {n t : Nat} {x : PBr} (h : signedOf ws = some (n, t)) (hx : ((lockGet s).getD [])[n]? = some x) : chosenOf s ws = (x, x.tag == 0 || x.tag == t) := by
  unfold chosenOf; rw [h]
  cases hg : lockGet s with
  | none => rw [hg] at hx; simp at hx
  | some l =>
    rw [hg] at hx
    dsimp only
    rw [show l[n]? = some x from hx]

end Go.Proofs.YtmakghcoehkphaaGreat
end

section
/-
  Locks, the thirteenth part: is an input of another sequence than the last one there? Conditions: none beyond each theorem's own.
-/
namespace Go.Proofs.YtmakghcoehkphaaGreat
open Go.RowKit Go.BigFrame
set_option linter.unusedVariables false

def lastSeq (x : PIn) : Bool := decide (x.seq = 4294967295)
end Go.Proofs.YtmakghcoehkphaaGreat
end

section
/-
  Locks, the fourteenth part: may an input be in a block? Conditions: none beyond each theorem's own.
-/
namespace Go.Proofs.YtmakghcoehkphaaGreat
open Go.RowKit Go.BigFrame
set_option linter.unusedVariables false

def ripeOf (t : PTx) (i c h : Int) : Bool := isIn t i && okHeight c && okHeight h && decide (c + waitsOf t i.toNat ≤ h) && (decide ((t.lock : Int) < h) || t.ins.all lastSeq)
def RipeIs (t : PTx) (i c h : Int) (w : World) (e : Ending) (w' : World) : Prop := e = .returned (.bool (ripeOf t i c h)) ∧ Below w.heap.size w w'
theorem ripe_is {t : PTx} {i c h : Int} {b : Bool} {w w' : World} (hr : ripeOf t i c h = b) (hb : Below w.heap.size w w') : RipeIs t i c h w (.returned (.bool b)) w' := by unfold RipeIs; rw [hr]; exact ⟨rfl, hb⟩
theorem tx_shape {w : World} {v : Value} {t : PTx} (h : TxAt w v t) : ∃ (a : Option Addr) (c : Nat) (au : Option Addr) (nu cu : Nat), v = .agg #[.int .u32 t.ver, .slice a t.ins.length c, .slice au nu cu, .int .u32 t.lock] ∧ t.ins.length ≤ 9223372036854775807 ∧ t.lock < 4294967296 ∧ SlAt rpIn w (.slice a t.ins.length c) t.ins := by
  obtain ⟨a, u, rfl, h1, h2, h3, h4⟩ := h
  obtain ⟨au, cu, rfl, -, -⟩ := h2.shape
  obtain ⟨a', c, rfl, hl1, hl2⟩ := h1.shape
  exact ⟨a', c, au, _, cu, rfl, by rw [maxLen_eq] at hl2; omega, h4, h1⟩

end Go.Proofs.YtmakghcoehkphaaGreat
end

section
/-
  Locks, the fifteenth part: the document's Ripe. Conditions: none beyond each theorem's own.
-/
namespace Go.Proofs.YtmakghcoehkphaaGreat
open Go.RowKit Go.BigFrame
set_option linter.unusedVariables false

end Go.Proofs.YtmakghcoehkphaaGreat
end

section
/-
  Locks, the plain law: what is put is got again, and what is got is put as it was. Conditions: none beyond each theorem's own.
-/
namespace Go.Proofs.YtmakghcoehkphaaGreat
open Go.RowKit
set_option linter.unusedVariables false

theorem leN_leB (n : Nat) : ∀ k, n < 256 ^ k → leN (leB n k) = n := by
  have key : ∀ k, leN (leB n k) = n % 256 ^ k := by
    intro k
    induction k with
    | zero => simp [leB, leN, Nat.mod_one]
    | succ k ih =>
      rw [leB, leN_append, ih, leB_length]
      simp only [UInt8.toNat_ofNat']
      have h8 : (2 : Nat) ^ 8 = 256 := by decide
      have e : n % 256 ^ (k + 1) = n % 256 ^ k + 256 ^ k * (n / 256 ^ k % 256) := by rw [Nat.pow_succ, Nat.mod_mul]
      rw [e, h8, Nat.mul_comm (256 ^ k)]
  intro k h
  rw [key, Nat.mod_eq_of_lt h]
theorem leN_inj : ∀ {l m : List UInt8}, l.length = m.length → leN l = leN m → l = m
  | [], [], _, _ => rfl
  | a :: l, b :: m, h1, h2 => by
    simp only [leN] at h2
    have ha := a.toNat_lt
    have hb := b.toNat_lt
    have e1 : a.toNat = b.toNat := by omega
    have e2 : leN l = leN m := by omega
    rw [UInt8.toNat_inj.1 e1, leN_inj (by simpa using h1) e2]
theorem leB_leN {l : List UInt8} {k : Nat} (h : l.length = k) : leB (leN l) k = l := by
  refine leN_inj (by rw [leB_length, h]) ?_
  rw [leN_leB _ _ (by rw [← h]; exact leN_lt l)]

theorem putBr_len (x : PBr) : (putBr x).length = 8 := by simp [putBr, leB_length]
theorem drop_put : ∀ (A : List PBr) (i : Nat) (x : PBr), A[i]? = some x → ∃ r, (A.flatMap putBr).drop (8 * i) = putBr x ++ r
  | a :: A, 0, x, h => ⟨A.flatMap putBr, by
    have : a = x := by simpa using h
    subst this
    rfl⟩
  | a :: A, i + 1, x, h => by
    obtain ⟨r, hr⟩ := drop_put A i x (by simpa using h)
    refine ⟨r, ?_⟩
    rw [List.flatMap_cons, show 8 * (i + 1) = (putBr a).length + 8 * i by rw [putBr_len]; omega, ← List.drop_drop, List.drop_left]
    exact hr

theorem brAt_put {h : UInt8} {A : List PBr} {i : Nat} {x : PBr} (hx : A[i]? = some x) (hok : x.Ok) : brAt ⟨(h :: A.flatMap putBr).toArray⟩ i = x := by
  obtain ⟨r, hr⟩ := drop_put A i x hx
  obtain ⟨t, d, g⟩ := x
  obtain ⟨h1, h2, h3⟩ := hok
  dsimp only at h1 h2 h3
  have e0 : ∀ q, (h :: A.flatMap putBr).drop (1 + 8 * i + q) = (leB t 2 ++ leB d 2 ++ leB g 4 ++ r).drop q := by
    intro q
    rw [show 1 + 8 * i + q = (8 * i + q) + 1 by omega, List.drop_succ_cons, ← List.drop_drop, hr]
    rfl
  unfold brAt getN
  simp only []
  rw [show 1 + 8 * i = 1 + 8 * i + 0 by omega, show 3 + 8 * i = 1 + 8 * i + 2 by omega, show 5 + 8 * i = 1 + 8 * i + 4 by omega, e0, e0, e0]
  have a1 : ((leB t 2 ++ leB d 2 ++ leB g 4 ++ r).drop 0).take 2 = leB t 2 := by
    rw [List.drop_zero, List.append_assoc, List.append_assoc, List.take_append_of_le_length (by simp [leB_length]), List.take_of_length_le (by simp [leB_length])]
  have a2 : ((leB t 2 ++ leB d 2 ++ leB g 4 ++ r).drop 2).take 2 = leB d 2 := by
    rw [List.append_assoc, List.append_assoc, List.drop_append_of_le_length (by simp [leB_length]), List.drop_of_length_le (by simp [leB_length]), List.nil_append, List.take_append_of_le_length (by simp [leB_length]), List.take_of_length_le (by simp [leB_length])]
  have a3 : ((leB t 2 ++ leB d 2 ++ leB g 4 ++ r).drop 4).take 4 = leB g 4 := by
    rw [List.append_assoc, List.drop_append_of_le_length (by simp [leB_length]), List.drop_of_length_le (by simp [leB_length]), List.nil_append, List.take_append_of_le_length (by simp [leB_length]), List.take_of_length_le (by simp [leB_length])]
  rw [a1, a2, a3, leN_leB t 2 h1, leN_leB d 2 h2, leN_leB g 4 h3]

theorem lockPut_ok_inv {A : List PBr} {l : List UInt8} (h : lockPut A = (l, 0)) : 1 ≤ A.length ∧ A.length ≤ 3 ∧ A.any tooHigh = false ∧ l = leB A.length 1 ++ A.flatMap putBr := by
  unfold lockPut at h
  split at h
  · simp at h
  · rename_i h1
    split at h
    · simp at h
    · rename_i h2
      have h3 : leB A.length 1 ++ A.flatMap putBr = l := (Prod.mk.inj h).1
      exact ⟨by omega, by omega, by simpa using h2, h3.symm⟩

theorem lockGet_put {A : List PBr} {l : List UInt8} (hok : ∀ x ∈ A, x.Ok) (h : lockPut A = (l, 0)) : lockGet ⟨l.toArray⟩ = some A := by
  obtain ⟨h1, h3, hh, rfl⟩ := lockPut_ok_inv h
  have e1 : leB A.length 1 ++ A.flatMap putBr = UInt8.ofNat A.length :: A.flatMap putBr := by simp [leB]
  rw [e1]
  have hf : firstB ⟨(UInt8.ofNat A.length :: A.flatMap putBr).toArray⟩ = A.length := by
    unfold firstB
    simp
    omega
  have hb : brs ⟨(UInt8.ofNat A.length :: A.flatMap putBr).toArray⟩ A.length = A := by
    apply List.ext_getElem?
    intro i
    rcases Nat.lt_or_ge i A.length with hi | hi
    · have hx : A[i]? = some A[i] := List.getElem?_eq_getElem hi
      rw [hx]
      unfold brs
      rw [List.getElem?_map, List.getElem?_range hi]
      simp only [Option.map_some]
      rw [brAt_put hx (hok _ (List.getElem_mem hi))]
    · rw [List.getElem?_eq_none (by rw [brs_len]; omega), List.getElem?_eq_none (by omega)]
  have hok2 : okLen ⟨(UInt8.ofNat A.length :: A.flatMap putBr).toArray⟩ := by
    refine ⟨by rw [hf]; omega, by rw [hf]; omega, ?_⟩
    rw [hf]
    simp only [ByteArray.size, List.size_toArray, List.length_cons, putBrs_len]
    omega
  rw [lockGet_ok hok2 (by rw [hf, hb]; exact hh), hf, hb]

theorem put_brAt {s : ByteArray} {i : Nat} (h : 1 + 8 * i + 8 ≤ s.size) : putBr (brAt s i) = (s.data.toList.drop (1 + 8 * i)).take 8 := by
  unfold putBr brAt getN
  simp only []
  have hl : s.data.toList.length = s.size := data_len s
  rw [leB_leN (by rw [List.length_take, List.length_drop]; omega), leB_leN (by rw [List.length_take, List.length_drop]; omega), leB_leN (by rw [List.length_take, List.length_drop]; omega)]
  have d2 : s.data.toList.drop (3 + 8 * i) = (s.data.toList.drop (1 + 8 * i)).drop 2 := by rw [List.drop_drop]; congr 1; omega
  have d4 : s.data.toList.drop (5 + 8 * i) = (s.data.toList.drop (1 + 8 * i)).drop 4 := by rw [List.drop_drop]; congr 1; omega
  rw [d2, d4]
  generalize s.data.toList.drop (1 + 8 * i) = L
  have t8 : L.take 8 = L.take 2 ++ ((L.drop 2).take 2 ++ (L.drop 4).take 4) := by
    have e1 : L.take 8 = L.take 2 ++ (L.drop 2).take 6 := List.take_add (i := 2) (j := 6)
    have e2 : (L.drop 2).take 6 = (L.drop 2).take 2 ++ ((L.drop 2).drop 2).take 4 := List.take_add (i := 2) (j := 4)
    rw [e1, e2, List.drop_drop]
  rw [t8, List.append_assoc]

theorem put_brs {s : ByteArray} : ∀ n, 1 + 8 * n ≤ s.size → (brs s n).flatMap putBr = (s.data.toList.drop 1).take (8 * n)
  | 0, _ => by simp [brs]
  | n + 1, h => by
    rw [brs_succ, List.flatMap_append, put_brs n (by omega)]
    simp only [List.flatMap_cons, List.flatMap_nil, List.append_nil]
    rw [put_brAt (by omega), show 8 * (n + 1) = 8 * n + 8 by omega, List.take_add, List.drop_drop]

theorem lockPut_get {s : ByteArray} {l : List PBr} (h : lockGet s = some l) : lockPut l = (s.data.toList, 0) := by
  unfold lockGet at h
  split at h
  · rename_i hok
    obtain rfl : brs s (firstB s) = l := by simpa using h
    obtain ⟨⟨h1, h2, h3⟩, h4⟩ := hok
    rw [lockPut_ok (by rw [brs_len]; omega) h4, brs_len, put_brs _ (by omega)]
    congr 1
    have hl : s.data.toList.length = s.size := data_len s
    cases hs : s.data.toList with
    | nil => rw [hs] at hl; simp at hl; omega
    | cons b r =>
      rw [hs] at hl
      have hf : firstB s = b.toNat := by unfold firstB; rw [hs]; rfl
      rw [List.drop_succ_cons, List.drop_zero, List.take_of_length_le (by simp at hl; omega), hf]
      simp [leB]
  · cases h
theorem lockGet_oks {s : ByteArray} {l : List PBr} (h : lockGet s = some l) : ∀ x ∈ l, x.Ok := by
  intro x hx
  unfold lockGet at h
  split at h
  · obtain rfl : brs s (firstB s) = l := by simpa using h
    obtain ⟨i, _, rfl⟩ := List.mem_map.1 hx
    exact brAt_ok s i
  · cases h

end Go.Proofs.YtmakghcoehkphaaGreat
end

section
/-
  A transaction that may be. Conditions: none.
-/
namespace Go.Proofs.YtmakghcoehkphaaGreat
open Go.RowKit Go.BigFrame
set_option linter.unusedVariables false
set_option linter.unusedSimpArgs false

structure Whole (t : PTx) : Prop where
  counts : countsOf t = true
  long : longOf t = false
  formed : formedOf t = true
  dup : dup (ptsOf t) = false
  sum : (sumOf t).2 = 0
theorem whole_of {t : PTx} (h : checkOf t = 0) : Whole t := by
  cases h1 : countsOf t
  · rw [check_counts h1] at h; exact absurd h (by decide)
  cases h2 : longOf t
  rotate_left
  · rw [check_long h1 h2] at h; exact absurd h (by decide)
  cases h3 : formedOf t
  · rw [check_form h1 h2 h3] at h; exact absurd h (by decide)
  cases h4 : dup (ptsOf t)
  rotate_left
  · rw [check_dup h1 h2 h3 h4] at h; exact absurd h (by decide)
  rw [check_sum h1 h2 h3 h4] at h
  exact ⟨h1, h2, h3, h4, h⟩
theorem counts_parts {t : PTx} (h : countsOf t = true) : (1 ≤ t.ins.length ∧ t.ins.length ≤ 256 ∧ 1 ≤ t.outs.length ∧ t.outs.length ≤ 256) ∧ (t.ins.any fun x => decide (4 < x.wit.length)) = false := by
  unfold countsOf at h
  simp only [Bool.and_eq_true, decide_eq_true_eq, Bool.not_eq_true'] at h
  exact ⟨⟨h.1.1.1, h.1.1.2, h.1.2.1, h.1.2.2⟩, h.2⟩
theorem long_parts {t : PTx} (h : longOf t = false) : (t.outs.any fun x => decide (40 < x.script.size)) = false ∧ t.ins.any longIn = false := by
  unfold longOf at h
  exact Bool.or_eq_false_iff.1 h
theorem formed_parts {t : PTx} (h : formedOf t = true) : ∀ x ∈ t.ins, x.id.size = 32 ∧ (isBase x.id x.idx = true → t.ins.length ≤ 1) := by
  intro x hx
  unfold formedOf at h
  have h1 := List.all_eq_true.1 h x hx
  unfold formIn at h1
  simp only [Bool.and_eq_true, decide_eq_true_eq, Bool.not_eq_true', Bool.and_eq_false_iff, decide_eq_false_iff_not] at h1
  refine ⟨h1.1, fun hb => ?_⟩
  rcases h1.2 with h2 | h2
  · rw [hb] at h2; cases h2
  · omega
theorem formed_of {t : PTx} (h : ∀ x ∈ t.ins, x.id.size = 32 ∧ (isBase x.id x.idx = true → t.ins.length ≤ 1)) : formedOf t = true := by
  unfold formedOf
  rw [List.all_eq_true]
  intro x hx
  obtain ⟨h1, h2⟩ := h x hx
  unfold formIn
  rw [decide_eq_true h1, Bool.true_and, Bool.not_eq_true', Bool.and_eq_false_iff]
  cases hb : isBase x.id x.idx
  · exact .inl rfl
  · have := h2 hb
    exact .inr (decide_eq_false (by omega))
theorem dup_nodup {ps : List Pt} (h : dup ps = false) : ps.Nodup := by
  apply Classical.byContradiction
  intro hn
  rw [dup_yes hn] at h
  cases h
end Go.Proofs.YtmakghcoehkphaaGreat
end

section
/-
  A transaction's bytes, as plain functions. Conditions: none.
-/
namespace Go.Proofs.YtmakghcoehkphaaGreat
open Go.RowKit Go.BigFrame
set_option linter.unusedVariables false
set_option linter.unusedSimpArgs false

def bL (l : List UInt8) : ByteArray := ⟨l.toArray⟩
theorem bL_size (l : List UInt8) : (bL l).size = l.length := mk_size l
theorem bL_app (l m : List UInt8) : bL l ++ bL m = bL (l ++ m) := mk_mk l m
theorem bL_app' (l : List UInt8) (s : ByteArray) : bL l ++ s = bL (l ++ s.data.toList) := mk_append l s
theorem bL_data (s : ByteArray) : bL s.data.toList = s := mk_data s
theorem bL_list (l : List UInt8) : (bL l).data.toList = l := by simp [bL]
def vintL (n : Nat) : List UInt8 := if n < 253 then leB n 1 else if n < 65536 then leB 253 1 ++ leB n 2 else if n < 4294967296 then leB 254 1 ++ leB n 4 else leB 255 1 ++ leB n 8
theorem vintL_le (n : Nat) : (vintL n).length ≤ 9 := by
  unfold vintL
  split
  · rw [leB_length]; omega
  · split
    · rw [List.length_append, leB_length, leB_length]; omega
    · split
      · rw [List.length_append, leB_length, leB_length]; omega
      · rw [List.length_append, leB_length, leB_length]; omega
def sizedL (s : ByteArray) : List UInt8 := vintL s.size ++ s.data.toList
def inB (x : PIn) : List UInt8 := x.id.data.toList ++ leB x.idx 4 ++ vintL 0 ++ leB x.seq 4
def outB (x : POut) : List UInt8 := leB x.val.toNat 8 ++ sizedL x.script
def witB (x : PIn) : List UInt8 := vintL x.wit.length ++ x.wit.flatMap sizedL
def markL (b : Bool) : List UInt8 := if b then [0, 1] else []
def witsL (b : Bool) (l : List PIn) : List UInt8 := if b then l.flatMap witB else []
def encL (t : PTx) (b : Bool) : List UInt8 := leB t.ver 4 ++ markL b ++ vintL t.ins.length ++ t.ins.flatMap inB ++ vintL t.outs.length ++ t.outs.flatMap outB ++ witsL b t.ins ++ leB t.lock 4
def witOf (t : PTx) : Bool := t.ins.any fun x => decide (0 < x.wit.length)

/-- What is known of a transaction that may be. -/
structure Enc (t : PTx) : Prop where
  ins : t.ins.length ≤ 256
  outs : t.outs.length ≤ 256
  ids : ∀ x ∈ t.ins, x.id.size = 32 ∧ x.wit.length ≤ 4 ∧ ∀ s ∈ x.wit, s.size ≤ 80
  vals : ∀ x ∈ t.outs, (0 ≤ x.val ∧ x.val ≤ 2100000000000000) ∧ x.script.size ≤ 40
theorem sum_good : ∀ (l : List Int) (s : Int), (sumA s l).2 = 0 → ∀ a ∈ l, 0 ≤ a ∧ a ≤ 2100000000000000
  | [], s, h, a, ha => by simp at ha
  | b :: r, s, h, a, ha => by
    rw [sumA] at h
    by_cases hg : (goodA b && goodA (s + b)) = true
    · rw [if_pos hg] at h
      rcases List.mem_cons.1 ha with rfl | ha
      · exact (goodA_iff a).1 (Bool.and_eq_true _ _ ▸ hg).1
      · exact sum_good r (s + b) h a ha
    · rw [if_neg hg] at h
      exact absurd h (by decide)
theorem enc_of {t : PTx} (h : Whole t) : Enc t := by
  obtain ⟨hc, hw⟩ := counts_parts h.counts
  obtain ⟨hl1, hl2⟩ := long_parts h.long
  have hf := formed_parts h.formed
  refine ⟨hc.2.1, hc.2.2.2, fun x hx => ⟨(hf x hx).1, ?_, fun s hs => ?_⟩, fun x hx => ⟨?_, ?_⟩⟩
  · have := List.any_eq_false.1 hw x hx
    simpa using this
  · have h1 := List.any_eq_false.1 hl2 x hx
    unfold longIn at h1
    rw [Bool.not_eq_true, List.any_eq_false] at h1
    have h2 := h1 s hs
    simpa using h2
  · exact sum_good _ 0 h.sum x.val (List.mem_map.2 ⟨x, hx, rfl⟩)
  · have := List.any_eq_false.1 hl1 x hx
    simpa using this
theorem flat_le {α : Type} (f : α → List UInt8) (c : Nat) : ∀ (l : List α), (∀ x ∈ l, (f x).length ≤ c) → (l.flatMap f).length ≤ l.length * c
  | [], _ => by simp
  | x :: r, h => by
    rw [List.flatMap_cons, List.length_append, List.length_cons, Nat.add_mul]
    have h1 := h x (List.mem_cons_self ..)
    have h2 := flat_le f c r fun y hy => h y (List.mem_cons_of_mem _ hy)
    omega
theorem inB_le {x : PIn} (h : x.id.size = 32) : (inB x).length ≤ 60 := by
  unfold inB
  have := vintL_le 0
  simp only [List.length_append, leB_length, data_len]
  omega
theorem sizedL_le (s : ByteArray) : (sizedL s).length ≤ 9 + s.size := by
  unfold sizedL
  have := vintL_le s.size
  rw [List.length_append, data_len]
  omega
theorem outB_le {x : POut} (h : x.script.size ≤ 40) : (outB x).length ≤ 60 := by
  unfold outB
  have := sizedL_le x.script
  rw [List.length_append, leB_length]
  omega
theorem witB_le {x : PIn} (h : x.wit.length ≤ 4 ∧ ∀ s ∈ x.wit, s.size ≤ 80) : (witB x).length ≤ 400 := by
  unfold witB
  have h1 := vintL_le x.wit.length
  have h2 := flat_le sizedL 89 x.wit fun s hs => by have := sizedL_le s; have := h.2 s hs; omega
  rw [List.length_append]
  have : x.wit.length * 89 ≤ 356 := by omega
  omega
theorem flat_take {α : Type} (f : α → List UInt8) {l : List α} {k : Nat} {x : α} (h : l[k]? = some x) : (l.take (k + 1)).flatMap f = (l.take k).flatMap f ++ f x := by
  rw [List.take_add_one, h]
  simp
theorem flat_take_le {α : Type} (f : α → List UInt8) (c : Nat) (l : List α) (k : Nat) (h : ∀ x ∈ l, (f x).length ≤ c) : ((l.take k).flatMap f).length ≤ l.length * c := by
  refine Nat.le_trans (flat_le f c _ fun x hx => h x (List.mem_of_mem_take hx)) (Nat.mul_le_mul_right c ?_)
  rw [List.length_take]
  omega
end Go.Proofs.YtmakghcoehkphaaGreat
end

section
/-
  Words of 32 bits, and their turning. Conditions: none beyond each theorem's own.
-/
namespace Go.Proofs.YtmakghcoehkphaaGreat
open Go.RowKit Go.BigFrame
set_option linter.unusedVariables false
set_option linter.unusedSimpArgs false

abbrev W32 := BitVec 32
theorem ofInt_nat (x : W32) : BitVec.ofInt 32 (x.toNat : Int) = x := by
  rw [BitVec.ofInt_natCast]; simp
theorem bv_xor (x y : W32) : bits .xor .u32 (x.toNat : Int) (y.toNat : Int) = ((x ^^^ y).toNat : Int) := by
  show IntKind.u32.wrap ((BitVec.ofInt 32 (x.toNat : Int) ^^^ BitVec.ofInt 32 (y.toNat : Int)).toNat : Int) = _
  rw [ofInt_nat, ofInt_nat, IntKind.wrap_u32]
  have := (x ^^^ y).isLt
  omega
theorem bv_and (x y : W32) : bits .and .u32 (x.toNat : Int) (y.toNat : Int) = ((x &&& y).toNat : Int) := by
  show IntKind.u32.wrap ((BitVec.ofInt 32 (x.toNat : Int) &&& BitVec.ofInt 32 (y.toNat : Int)).toNat : Int) = _
  rw [ofInt_nat, ofInt_nat, IntKind.wrap_u32]
  have := (x &&& y).isLt
  omega
theorem bv_or (x y : W32) : bits .or .u32 (x.toNat : Int) (y.toNat : Int) = ((x ||| y).toNat : Int) := by
  show IntKind.u32.wrap ((BitVec.ofInt 32 (x.toNat : Int) ||| BitVec.ofInt 32 (y.toNat : Int)).toNat : Int) = _
  rw [ofInt_nat, ofInt_nat, IntKind.wrap_u32]
  have := (x ||| y).isLt
  omega
theorem bv_add (x y : W32) : ((x.toNat : Int) + (y.toNat : Int)) % 4294967296 = ((x + y).toNat : Int) := by
  rw [BitVec.toNat_add]; omega
theorem bv_shr (x : W32) (n : Nat) : (x.toNat : Int) / 2 ^ n = ((x >>> n).toNat : Int) := by
  rw [BitVec.toNat_ushiftRight, Nat.shiftRight_eq_div_pow]; simp
theorem bv_lt (x : W32) : x.toNat < 4294967296 := x.isLt

theorem bv_shl (x : W32) (n : Nat) : (x.toNat : Int) * 2 ^ n % 4294967296 = ((x <<< n).toNat : Int) := by
  rw [BitVec.toNat_shiftLeft, Nat.shiftLeft_eq]
  have h : ((x.toNat * 2 ^ n : Nat) : Int) = (x.toNat : Int) * 2 ^ n := by simp
  rw [← h]
  omega
theorem rot_eq (x : W32) (n : Nat) (hn : 0 < n ∧ n < 32) : x >>> n ||| x <<< (32 - n) = x.rotateRight n := by
  rw [BitVec.rotateRight_def]
  have : n % 32 = n := Nat.mod_eq_of_lt hn.2
  rw [this]
theorem neg_and : ∀ n : Fin 32, 0 < n.val → bits .and .u64 (IntKind.u64.wrap (-(n.val : Int))) 31 = ((32 - n.val : Nat) : Int) := by decide

/-- A word as a number: nothing looks into it. -/
def nv (x : W32) : Int := (x.toNat : Int)
theorem nv_range (x : W32) : 0 ≤ nv x ∧ nv x ≤ 4294967295 := by have := bv_lt x; unfold nv; omega
@[go_sem] theorem nv_xor (x y : W32) : bits .xor .u32 (nv x) (nv y) = nv (x ^^^ y) := bv_xor x y
@[go_sem] theorem nv_and (x y : W32) : bits .and .u32 (nv x) (nv y) = nv (x &&& y) := bv_and x y
@[go_sem] theorem nv_or (x y : W32) : bits .or .u32 (nv x) (nv y) = nv (x ||| y) := bv_or x y
@[go_sem] theorem nv_add (x y : W32) : (nv x + nv y) % 4294967296 = nv (x + y) := bv_add x y
theorem nv_add3 (x y z : W32) : (nv x + nv y + nv z) % 4294967296 = nv (x + y + z) := by
  rw [← nv_add (x + y) z, ← nv_add x y, Int.emod_add_emod]
theorem nv_add4 (x y z u : W32) : (nv x + nv y + nv z + nv u) % 4294967296 = nv (x + y + z + u) := by
  rw [← nv_add (x + y + z) u, ← nv_add3 x y z, Int.emod_add_emod]
theorem nv_add5 (x y z u v : W32) : (nv x + nv y + nv z + nv u + nv v) % 4294967296 = nv (x + y + z + u + v) := by
  rw [← nv_add (x + y + z + u) v, ← nv_add4 x y z u, Int.emod_add_emod]
theorem nv_addr (d x y z u : W32) : (nv d + (nv x + nv y + nv z + nv u)) % 4294967296 = nv (d + (x + y + z + u)) := by
  rw [← nv_add d (x + y + z + u), ← nv_add4 x y z u, Int.add_emod_emod]
theorem nv_add' (x y : W32) : IntKind.u32.wrap (nv x + nv y) = nv (x + y) := by rw [IntKind.wrap_u32]; exact bv_add x y
theorem nv_shr (x : W32) (n : Nat) : nv x / 2 ^ n = nv (x >>> n) := bv_shr x n
theorem nv_shl (x : W32) (n : Nat) : nv x * 2 ^ n % 4294967296 = nv (x <<< n) := bv_shl x n
theorem bv_not (x : W32) : bits .xor .u32 4294967295 (nv x) = nv (~~~x) := by
  have h : ((4294967295 : W32).toNat : Int) = 4294967295 := by decide
  have := bv_xor 4294967295 x
  rw [h] at this
  unfold nv
  rw [this]
  congr 2
/-- A word as a value. -/
def wv (x : W32) : Value := .int .u32 (nv x)

end Go.Proofs.YtmakghcoehkphaaGreat
end

section
/-
  SHA-256: one round. Conditions: none beyond each theorem's own.
-/
namespace Go.Proofs.YtmakghcoehkphaaGreat
open Go.RowKit Go.BigFrame
set_option linter.unusedVariables false
set_option linter.unusedSimpArgs false

theorem quiet_same {P : Program} {f : FuncId} {args : Array Value} {w : World} {n : Nat} {v : Value}
    (h : Calls P f args (w.drewN n) fun e w' => e = .returned v ∧ w.drewN n = w') : Calls P f args (w.drewN n) fun e w'' => e = .returned v ∧ ∃ m, w'' = w.drewN m :=
  h.mono fun _ _ ⟨he, hm⟩ => ⟨he, n, hm.symm⟩

theorem quiet_same2 {P : Program} {f : FuncId} {args : Array Value} {w : World} {q n : Nat} {v : Value}
    (h : Calls P f args (w.drewN (q + n)) fun e w' => e = .returned v ∧ w.drewN (q + n) = w') : Calls P f args (w.drewN (q + n)) fun e w'' => e = .returned v ∧ ∃ m, w'' = w.drewN (q + m) :=
  h.mono fun _ _ ⟨he, hm⟩ => ⟨he, n, hm.symm⟩

/-- The eight words of a state. -/
structure St where
  a : W32
  b : W32
  c : W32
  d : W32
  e : W32
  f : W32
  g : W32
  h : W32
def St.val (s : St) : Value := .agg #[.int .u32 (nv s.a), .int .u32 (nv s.b), .int .u32 (nv s.c), .int .u32 (nv s.d), .int .u32 (nv s.e), .int .u32 (nv s.f), .int .u32 (nv s.g), .int .u32 (nv s.h)]
def tOf (s : St) (k w : W32) : W32 := s.h + (s.e.rotateRight 6 ^^^ s.e.rotateRight 11 ^^^ s.e.rotateRight 25) + ((s.e &&& s.f) ^^^ (~~~s.e &&& s.g)) + k + w
def uOf (s : St) : W32 := (s.a.rotateRight 2 ^^^ s.a.rotateRight 13 ^^^ s.a.rotateRight 22) + ((s.a &&& s.b) ^^^ (s.a &&& s.c) ^^^ (s.b &&& s.c))
def rnd (s : St) (k w : W32) : St := ⟨tOf s k w + uOf s, s.a, s.b, s.c, s.d + tOf s k w, s.e, s.f, s.g⟩

end Go.Proofs.YtmakghcoehkphaaGreat
end
