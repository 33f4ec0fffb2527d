/-
  Locks, the fifth part: witnesses. Conditions: none beyond each theorem's own.
-/
import Derived.Test.YtmakghcoehkphaaLock4
import Derived.OwnWalk
namespace Go.Proofs.Ytmakghcoehkphaa
open Go.RowKit Go.BigFrame
set_option linter.unusedVariables false

/-- The branch and the tag of a witness. -/
def signedOf (ws : List ByteArray) : Option (Nat × Nat) :=
  match ws with
  | [x] => match x.data.toList with
    | [a, b, c] => if a.toNat < 3 then some (a.toNat, b.toNat + 256 * c.toNat) else none
    | _ => none
  | _ => none
def SignedIs (ws : List ByteArray) (w : World) (e : Ending) (w' : World) : Prop :=
  e = .returned (.tuple #[.int .i64 ((signedOf ws).getD (0, 0)).1, .int .u16 ((signedOf ws).getD (0, 0)).2, .int .i64 (if (signedOf ws).isSome then 0 else 4)]) ∧ Below w.heap.size w w'
theorem signed_none {ws : List ByteArray} {w w' : World} (h : signedOf ws = none) (hb : Below w.heap.size w w') : SignedIs ws w (.returned (.tuple #[.int .i64 0, .int .u16 0, .int .i64 4])) w' := by
  unfold SignedIs; rw [h]; exact ⟨rfl, hb⟩
theorem signed_some {ws : List ByteArray} {w w' : World} {n t : Nat} (h : signedOf ws = some (n, t)) (hb : Below w.heap.size w w') : SignedIs ws w (.returned (.tuple #[.int .i64 n, .int .u16 t, .int .i64 0])) w' := by
  unfold SignedIs; rw [h]; exact ⟨rfl, hb⟩
theorem signedOf_len {ws : List ByteArray} (h : ws.length ≠ 1) : signedOf ws = none := by
  unfold signedOf
  split
  · simp at h
  · rfl
theorem signedOf_size {x : ByteArray} (h : x.size ≠ 3) : signedOf [x] = none := by
  unfold signedOf
  dsimp only
  split
  · rename_i a b c hx
    exact absurd (by rw [← data_len, hx]; rfl) h
  · rfl
theorem signedOf_three {x : ByteArray} {a b c : UInt8} (h : x.data.toList = [a, b, c]) : signedOf [x] = if a.toNat < 3 then some (a.toNat, b.toNat + 256 * c.toNat) else none := by
  unfold signedOf
  dsimp only
  rw [h]
theorem three_of {x : ByteArray} (h : x.size = 3) : ∃ a b c, x.data.toList = [a, b, c] := by
  have hl := data_len x
  rw [h] at hl
  match hx : x.data.toList, hl with
  | [a, b, c], _ => exact ⟨a, b, c, rfl⟩
theorem get_at {x : ByteArray} {l : List UInt8} (h : x.data.toList = l) {i : Nat} (hi : i < x.size) (hl : i < l.length) : (x[i]'hi) = l[i] := by
  subst h; exact byte_eq rfl
theorem getN_three {x : ByteArray} {a b c : UInt8} (h : x.data.toList = [a, b, c]) : getN x 1 2 = b.toNat + 256 * c.toNat := by
  unfold getN
  rw [h]
  simp [leN]

set_option maxRecDepth 100000 in
set_option maxHeartbeats 1000000 in
theorem signed_any (v : Value) (ws : List ByteArray) (w : World) (hv : SlAt rpStr w v ws) : Calls Try.prog 69 #[v] w (SignedIs ws w) := by
  obtain ⟨a, c, rfl, hl1, hl2⟩ := hv.shape
  rw [maxLen_eq] at hl2
  by_cases h1 : ws.length = 1
  case neg =>
    have hne : ((ws.length : Int) != 1) = true := by rw [bne_iff_ne]; omega
    have hno := signedOf_len h1
    have HNO := Lib.hid hno
    clear hno hv h1
    go_enter Try.func69, Try.ntmps69
    go_wp2
    go_ret3
    exact signed_none HNO.out (Below.refl _ _)
  obtain ⟨x, rfl⟩ : ∃ x, ws = [x] := List.length_eq_one_iff.1 h1
  obtain ⟨b, o, x', rfl, hx', hxl, hc0⟩ := hv.str (i := 0) (by simp)
  obtain rfl : x = x' := by simpa using hx'
  rw [Nat.add_zero] at hc0
  have hne : (((([x] : List ByteArray).length : Nat) : Int) != 1) = false := by simp
  have hlen : ([x] : List ByteArray).length = 1 := rfl
  rw [hlen] at hl1 ⊢
  clear hv h1 hx' hne hlen
  by_cases h3 : x.size = 3
  case neg =>
    have hne : ((x.size : Int) != 3) = true := by rw [bne_iff_ne]; omega
    have hno := signedOf_size h3
    have HNO := Lib.hid hno
    clear hno h3
    go_enter Try.func69, Try.ntmps69
    go_wp2
    go_ret3
    exact signed_none HNO.out (Below.refl _ _)
  obtain ⟨p, q, r, hx⟩ := three_of h3
  have hs := signedOf_three hx
  have hsz : 0 < x.size := by omega
  have hx0 : (x[0]'hsz) = p := get_at hx hsz (by simp)
  have hgn := getN_three hx
  have hg1 := hgn ▸ getN_lt x 1 2
  have hn2 := fun w => number_any x 1 2 (.inr (.inl rfl)) hxl (by omega) w
  rw [hgn] at hn2
  have HN2 := Lib.hid hn2
  generalize hG : q.toNat + 256 * r.toNat = G at *
  have hp8 := p.toNat_lt
  obtain ⟨m, hm⟩ : ∃ m, p.toNat = m := ⟨_, rfl⟩
  rw [hm] at hs hp8
  have HS := Lib.hid hs
  clear hs hx hG hn2 hgn
  by_cases hm3 : m < 3
  case neg =>
    go_enter Try.func69, Try.ntmps69
    go_wp2
    go_ret3
    exact signed_none (by rw [HS.out, if_neg hm3]) (Below.refl _ _)
  have hsome : signedOf [x] = some (m, G) := by rw [HS.out, if_pos hm3]
  have HSOME := Lib.hid hsome
  clear hsome
  obtain ⟨C, hC⟩ : ∃ C : World → Prop, C = fun w' => Below w.heap.size w w' := ⟨_, rfl⟩
  have hlt := World.block_lt_of_cell? _ _ hc0
  have hk0 : ∀ x' : Kin C, x'.w.cell? ⟨b, o, none⟩ = some (.string x) := by
    intro ⟨x', h⟩; subst hC; exact (h.cell hlt).trans hc0
  have hstep : ∀ (x : Kin C) (w' : World), Below x.w.heap.size x.w w' → C w' := by
    intro ⟨x, h⟩ w' h2; subst hC; exact h.trans (h2.mono h.size)
  have HST := Lib.hid hstep
  have HC := Lib.hid hC
  clear hstep hC hlt
  go_enter Try.func69, Try.ntmps69
  go_wp2_with fail
  refine wp_region_kin C (by kernel_rfl) (by kernel_rfl) (by rw [HC.out]; exact (Below.refl _ _).drew) ?_
  intro hne
  repeat (first | (go_big_quiet_step ((rename_i x'; go_at_call 89; exact Calls.kin (HN2.out _) (HST.out x')))) | (quiet_step ((rename_i x'; go_at_call 89; exact Calls.kin (HN2.out _) (HST.out x')))))
  refine wpQuiet_nil ?_
  intro _ hw'
  obtain ⟨kx, hw''⟩ := hw'
  subst hw''
  have hget : ∀ y, C y → Below w.heap.size w y := by intro y h; rw [HC.out] at h; exact h
  have HF := Lib.hid (hget _ kx.has)
  clear hget
  go_wp2
  go_ret3
  exact signed_some HSOME.out HF.out

end Go.Proofs.Ytmakghcoehkphaa
