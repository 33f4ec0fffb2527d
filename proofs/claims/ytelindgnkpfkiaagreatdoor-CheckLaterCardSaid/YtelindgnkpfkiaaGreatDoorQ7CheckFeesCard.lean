/-
  CheckFeesCard, part 7: the texts Lock6, Lock7, Lock8, Lock9, Lock10, Lock11, Lock12, Lock13, Lock14, Regs, EF0, one after another. Conditions: none beyond those named at each.
-/
import Derived.Test.YtelindgnkpfkiaaGreatDoorQ6CheckFeesCard
import Derived.Laws.StructEq
import Derived.Laws.Cover2
import Derived.Test.YtelindgnkpfkiaaGreatDoorQ4CheckFeesCard
import Derived.Test.YtelindgnkpfkiaaGreatDoorQ1CheckFeesCard
import Derived.Deep.MidRow
section
/-
  Locks, the sixth part: the document's witnesses, and how both sign. Conditions: none beyond each theorem's own.
-/
namespace Go.Proofs.YtelindgnkpfkiaaGreatDoor
open Go.RowKit Go.BigFrame
set_option linter.unusedVariables false

def RSignedIs (ws : List ByteArray) (w : World) (e : Ending) (w' : World) : Prop :=
  e = .returned (.tuple #[.int .i64 (match signedOf ws with | some (n, _) => n | none => -1), .int .i64 ((signedOf ws).getD (0, 0)).2]) ∧ Below w.heap.size w w'
theorem rsigned_none {ws : List ByteArray} {w w' : World} (h : signedOf ws = none) (hb : Below w.heap.size w w') : RSignedIs ws w (.returned (.tuple #[.int .i64 (-1), .int .i64 0])) w' := by
  unfold RSignedIs; rw [h]; exact ⟨rfl, hb⟩
theorem rsigned_some {ws : List ByteArray} {w w' : World} {n t : Nat} {t' : Int} (h : signedOf ws = some (n, t)) (ht : t' = t) (hb : Below w.heap.size w w') : RSignedIs ws w (.returned (.tuple #[.int .i64 n, .int .i64 t'])) w' := by
  subst ht; unfold RSignedIs; rw [h]; exact ⟨rfl, hb⟩

set_option maxRecDepth 100000 in
set_option maxHeartbeats 1000000 in
theorem rsigned_any (v : Value) (ws : List ByteArray) (w : World) (hv : SlAt rpStr w v ws) : Calls Tryz.prog 70 #[v] w (RSignedIs ws w) := by
  obtain ⟨a, c, rfl, hl1, hl2⟩ := hv.shape
  rw [maxLen_eq] at hl2
  by_cases h1 : ws.length = 1
  case neg =>
    have hne : ((ws.length : Int) != 1) = true := by rw [bne_iff_ne]; omega
    have hno := signedOf_len h1
    have HNO := Lib.hid hno
    clear hno hv h1
    go_enter Tryz.func70, Tryz.ntmps70
    go_wp2
    go_ret2
    exact rsigned_none HNO.out (Below.refl _ _)
  obtain ⟨x, rfl⟩ : ∃ x, ws = [x] := List.length_eq_one_iff.1 h1
  obtain ⟨b, o, x', rfl, hx', hxl, hc0⟩ := hv.str (i := 0) (by simp)
  obtain rfl : x = x' := by simpa using hx'
  rw [Nat.add_zero] at hc0
  have hlen : ([x] : List ByteArray).length = 1 := rfl
  rw [hlen] at hl1 ⊢
  clear hv h1 hx' hlen
  by_cases h3 : x.size = 3
  case neg =>
    have hne : ((x.size : Int) != 3) = true := by rw [bne_iff_ne]; omega
    have hno := signedOf_size h3
    have HNO := Lib.hid hno
    clear hno h3
    go_enter Tryz.func70, Tryz.ntmps70
    go_wp2
    go_ret2
    exact rsigned_none HNO.out (Below.refl _ _)
  obtain ⟨p, q, r, hx⟩ := three_of h3
  have hs := signedOf_three hx
  have hsz : 0 < x.size := by omega
  have hsz1 : 1 < x.size := by omega
  have hsz2 : 2 < x.size := by omega
  have hx0 : (x[0]'hsz) = p := get_at hx hsz (by simp)
  have hx1 : (x[1]'hsz1) = q := get_at hx hsz1 (by simp)
  have hx2 : (x[2]'hsz2) = r := get_at hx hsz2 (by simp)
  have hp8 := p.toNat_lt
  have hq8 := q.toNat_lt
  have hr8 := r.toNat_lt
  obtain ⟨m, hm⟩ : ∃ m, p.toNat = m := ⟨_, rfl⟩
  obtain ⟨q', hq⟩ : ∃ m, q.toNat = m := ⟨_, rfl⟩
  obtain ⟨r', hr⟩ : ∃ m, r.toNat = m := ⟨_, rfl⟩
  rw [hm, hq, hr] at hs
  rw [hm] at hp8
  rw [hq] at hq8
  rw [hr] at hr8
  have HS := Lib.hid hs
  clear hs hx
  by_cases hm3 : m < 3
  case neg =>
    have hm2 : 2 < m := by omega
    go_enter Tryz.func70, Tryz.ntmps70
    go_wp2
    go_ret2
    exact rsigned_none (by rw [HS.out, if_neg hm3]) (Below.refl _ _)
  have hsome : signedOf [x] = some (m, q' + 256 * r') := by rw [HS.out, if_pos hm3]
  have HSOME := Lib.hid hsome
  clear hsome
  have hm2 : ¬ 2 < m := by omega
  go_enter Tryz.func70, Tryz.ntmps70
  go_wp2_with fail
  go_quiet (fail)
  go_wp2
  go_ret2
  exact rsigned_some HSOME.out (by push_cast; rfl) ⟨rfl, rfl, rfl, Nat.le_refl _, fun _ _ => rfl⟩

/-- A slice of one string, in memory just made. -/
theorem sl_one {w w' : World} {s : ByteArray} (e : TypeId) (hs : s.size ≤ maxLen) : SlAt rpStr (w.alloc (.cells #[.string s] e)) (.slice (some ⟨w.heap.size, 0, none⟩) 1 1) [s] := by
  refine ⟨_, 1, rfl, Nat.le_refl _, by decide, fun i x hi => ?_⟩
  have h0 : i = 0 := by have := (List.getElem?_eq_some_iff.1 hi).1; simpa using this
  subst h0
  obtain rfl : s = x := by simpa using hi
  refine ⟨_, 0, [.string s], rfl, rfl, fun j u hj => ?_, rfl, hs⟩
  have hj0 : j = 0 := by have := (List.getElem?_eq_some_iff.1 hj).1; simpa using this
  subst hj0
  rw [cell_at (heap_alloc_new w _)]
  simpa using hj

/-- The witness of a branch and a tag. -/
def signW (n t : Nat) : ByteArray := ⟨(leB n 1 ++ leB t 2).toArray⟩
theorem signW_size (n t : Nat) : (signW n t).size = 3 := by simp [signW, ByteArray.size, leB_length]
def SignIs (n t : Nat) (w : World) (e : Ending) (w' : World) : Prop := ∃ v, e = .returned (.tuple #[v, .int .i64 0]) ∧ SlAt rpStr w' v [signW n t] ∧ Below w.heap.size w w'

theorem leB_small (m : Nat) : leB m 2 = [UInt8.ofNat m, UInt8.ofNat (m / 256)] := by simp [leB]
theorem bytes3_row (a b c : Nat) : bytesOf [UInt8.ofNat a, UInt8.ofNat b, UInt8.ofNat c] = [.int .u8 ((a : Int) % 256), .int .u8 ((b : Int) % 256), .int .u8 ((c : Int) % 256)] := by
  simp [bytesOf]

def RSignIs (n t : Nat) (w : World) (e : Ending) (w' : World) : Prop := ∃ v, e = .returned v ∧ SlAt rpStr w' v [signW n t] ∧ Below w.heap.size w w'
theorem three_bytes (w : World) (a b c : Nat) (ha : a < 256) (hb : b < 256) (hc : c < 256) : (convert 106 9 (.slice (some ⟨w.heap.size, 0, none⟩) 3 3)).run Tryz.prog (w.alloc (.cells #[.int .u8 a, .int .u8 b, .int .u8 c] 5)) =
    .ok (.string ⟨[UInt8.ofNat a, UInt8.ofNat b, UInt8.ofNat c].toArray⟩) (w.alloc (.cells #[.int .u8 a, .int .u8 b, .int .u8 c] 5)) := by
  refine convert_bytes (base := 0) ⟨by simp [bytesOf], .inr ⟨w.heap.size, 3, _, rfl, Nat.zero_le _, heap_alloc_new w _, Nat.le_refl _, by decide, rfl, ?_⟩⟩
  rw [bytes3_row, Int.emod_eq_of_lt (by omega) (by omega), Int.emod_eq_of_lt (by omega) (by omega), Int.emod_eq_of_lt (by omega) (by omega)]
  rfl

set_option maxRecDepth 100000 in
set_option maxHeartbeats 1000000 in
theorem rsign_any (n t : Nat) (h : n < 3) (ht : t < 65536) (w : World) : Calls Tryz.prog 27 #[.int .i64 n, .int .u16 t] w (RSignIs n t w) := by
  have hcv := three_bytes w n (t % 256) (t / 256) (by omega) (by omega) (by omega)
  have e1 : (t : Int).tmod 256 = ((t % 256 : Nat) : Int) := by rw [Int.tmod_eq_emod_of_nonneg (by omega)]; omega
  have e2 : (t : Int).tdiv 256 = ((t / 256 : Nat) : Int) := by rw [Int.tdiv_eq_ediv_of_nonneg (by omega)]; omega
  have hq : t / 256 < 256 := by omega
  have hr : t % 256 < 256 := by omega
  have hw : signW n t = ⟨[UInt8.ofNat n, UInt8.ofNat (t % 256), UInt8.ofNat (t / 256)].toArray⟩ := by
    unfold signW
    congr 2
    have h8 : UInt8.ofNat t = UInt8.ofNat (t % 256) := UInt8.toNat_inj.1 (by simp)
    simp [leB, ← h8]
  have HW := Lib.hid hw
  clear hw
  generalize t % 256 = r at *
  generalize t / 256 = q at *
  go_enter Tryz.func27, Tryz.ntmps27
  go_wp2
  go_ret
  have := sl_one (w := w.alloc (.cells #[.int .u8 n, .int .u8 r, .int .u8 q] 5)) (s := signW n t) 9 (by rw [signW_size]; decide) (w' := w)
  rw [HW.out] at this
  unfold RSignIs
  rw [HW.out]
  exact ⟨_, rfl, by simpa using this, ((Below.refl _ _).alloc (Nat.le_refl _) _).alloc (by simp) _⟩

end Go.Proofs.YtelindgnkpfkiaaGreatDoor
end

section
/-
  Locks, the seventh part: equal slices; the Sequence. Conditions: none beyond each theorem's own.
-/
namespace Go.Proofs.YtelindgnkpfkiaaGreatDoor
open Go.RowKit Go.BigFrame
set_option linter.unusedVariables false

instance : DecidableEq PBr := fun a b => match a, b with | ⟨a1, a2, a3⟩, ⟨b1, b2, b3⟩ => if h : a1 = b1 ∧ a2 = b2 ∧ a3 = b3 then .isTrue (by obtain ⟨rfl, rfl, rfl⟩ := h; rfl) else .isFalse (by intro e; cases e; exact h ⟨rfl, rfl, rfl⟩)

def brEq (a b c a' b' c' : Int) : Bool := decide (a = a' ∧ b = b' ∧ c = c')
@[go_sem] theorem eq_br (a b c a' b' c' : Int) (w : World) : (Op.equalIn 10000 81 (.agg #[.int .u16 a, .int .u16 b, .int .u32 c]) (.agg #[.int .u16 a', .int .u16 b', .int .u32 c'])).run Tryz.prog w = .ok (brEq a b c a' b' c') w := by
  unfold brEq
  have u1 := Tryz.underlying28
  have u2 := Tryz.underlying25
  have hS : Tryz.prog.underlying 81 = some (.struct (Tryz.prog.fieldsOf 81)) := by kernel_rfl
  have hp : Tryz.prog.stoodInHeld 81 = false := by kernel_rfl
  rw [show (10000 : Nat) = 9999 + 1 from rfl, run_equalIn_agg w 9999 81 _ _ hS hp]
  simp only [Program.fieldsOf, Tryz.underlying81]
  go_simp
  by_cases h1 : a = a' <;> by_cases h2 : b = b' <;> by_cases h3 : c = c' <;> simp [h1, h2, h3]
attribute [-go_sem] run_equalIn_agg
theorem guard_br : Tryz.prog.eqGuardType Tryz.prog.depth 81 = false := by kernel_rfl

theorem lists_eq_of {α : Type} {xs ys : List α} {n : Nat} (h1 : xs.length = n) (h2 : ys.length = n) (h : ∀ i, i < n → xs[i]? = ys[i]?) : xs = ys := by
  apply List.ext_getElem?
  intro i
  rcases Nat.lt_or_ge i n with hi | hi
  · exact h i hi
  · rw [List.getElem?_eq_none (by omega), List.getElem?_eq_none (by omega)]

end Go.Proofs.YtelindgnkpfkiaaGreatDoor
end

section
/-
  Locks, the eighth part: equal texts; the Sequence; transactions as data. Conditions: none beyond each theorem's own.
-/
namespace Go.Proofs.YtelindgnkpfkiaaGreatDoor
open Go.RowKit Go.BigFrame
set_option linter.unusedVariables false

def waitsOf (t : PTx) (i : Nat) : Nat := match t.ins[i]? with | some x => if x.seq < 2147483648 ∧ 2 ≤ t.ver then x.seq % 65536 else 0 | none => 0
theorem waitsOf_lt (t : PTx) (i : Nat) : waitsOf t i < 65536 := by
  unfold waitsOf
  split
  · split
    · exact Nat.mod_lt _ (by omega)
    · omega
  · omega

end Go.Proofs.YtelindgnkpfkiaaGreatDoor
end

section
/-
  Locks, the ninth part: how long an input waits. Conditions: none beyond each theorem's own.
-/
namespace Go.Proofs.YtelindgnkpfkiaaGreatDoor
open Go.RowKit Go.BigFrame
set_option linter.unusedVariables false

theorem and_u32 (a : Nat) (ha : a < 4294967296) : bits .and .u32 (a : Int) 65535 = ((a % 65536 : Nat) : Int) := by
  have h1 : (BitVec.ofInt 32 (a : Int)).toNat = a := by
    rw [BitVec.ofInt_natCast, BitVec.toNat_ofNat]; exact Nat.mod_eq_of_lt (by omega)
  have h2 : (BitVec.ofInt 32 (65535 : Int)).toNat = 65535 := by decide
  have h3 : a &&& 65535 = a % 65536 := Nat.and_two_pow_sub_one_eq_mod a 16
  show IntKind.u32.wrap ((BitVec.ofInt 32 (a : Int) &&& BitVec.ofInt 32 (65535 : Int)).toNat : Int) = _
  rw [BitVec.toNat_and, h1, h2, h3]
  have : a % 65536 < 65536 := Nat.mod_lt _ (by omega)
  rw [IntKind.wrap_u32]
  omega

theorem waitsOf_at {t : PTx} {i : Nat} {x : PIn} (h : t.ins[i]? = some x) : waitsOf t i = if x.seq < 2147483648 ∧ 2 ≤ t.ver then x.seq % 65536 else 0 := by
  unfold waitsOf; rw [h]

set_option maxRecDepth 100000 in
set_option maxHeartbeats 1000000 in
theorem waits_any (v : Value) (t : PTx) (i : Nat) (w : World) (hv : TxAt w v t) (hi : i < t.ins.length) :
    Calls Tryz.prog 51 #[v, .int .i64 i] w fun e w' => e = .returned (.int .i64 (waitsOf t i)) ∧ Below w.heap.size w w' := by
  obtain ⟨b, o, n, c, au, nu, cu, x, wv, rfl, hn, hnm, hx, hs, hv1, hv2, -, hc, -⟩ := tx_in hv hi
  rw [waitsOf_at hx]
  obtain ⟨ver, ins, outs, lock⟩ := t
  dsimp only at *
  rw [← hn] at hi
  generalize x.seq = s at *
  have hand := and_u32 s hs
  have hm : s % 65536 < 65536 := Nat.mod_lt _ (by omega)
  generalize s % 65536 = r at *
  have hc' := fun ob => cell_over hc ob
  clear hn hx hv hc hs hv1 hv2
  by_cases h1 : s < 2147483648
  · have hI : ((s : Int) < 2147483648) = True := eq_true (by omega)
    have hJ : ((2147483648 : Int) ≤ (s : Int)) = False := eq_false (by omega)
    by_cases h2 : 2 ≤ ver
    · rw [if_pos ⟨h1, h2⟩]
      clear h1
      go_enter Tryz.func51, Tryz.ntmps51
      go_wp2
      go_ret
      exact ⟨ret_int (by omega), (Below.refl _ _).alloc (Nat.le_refl _) _⟩
    · rw [if_neg (fun h => h2 h.2)]
      clear h1
      go_enter Tryz.func51, Tryz.ntmps51
      go_wp2
      go_ret
      exact ⟨rfl, (Below.refl _ _).alloc (Nat.le_refl _) _⟩
  · rw [if_neg (fun h => h1 h.1)]
    have hI : ((s : Int) < 2147483648) = False := eq_false (by omega)
    have hJ : ((2147483648 : Int) ≤ (s : Int)) = True := eq_true (by omega)
    clear h1
    go_enter Tryz.func51, Tryz.ntmps51
    go_wp2
    go_ret
    exact ⟨rfl, (Below.refl _ _).alloc (Nat.le_refl _) _⟩

set_option maxRecDepth 100000 in
set_option maxHeartbeats 1000000 in
theorem rwaits_any (v : Value) (t : PTx) (i : Nat) (w : World) (hv : TxAt w v t) (hi : i < t.ins.length) :
    Calls Tryz.prog 71 #[v, .int .i64 i] w fun e w' => e = .returned (.int .i64 (waitsOf t i)) ∧ Below w.heap.size w w' := by
  obtain ⟨b, o, n, c, au, nu, cu, x, wv, rfl, hn, hnm, hx, hs, hv1, hv2, -, hc, -⟩ := tx_in hv hi
  rw [waitsOf_at hx]
  obtain ⟨ver, ins, outs, lock⟩ := t
  dsimp only at *
  rw [← hn] at hi
  generalize x.seq = s at *
  have hmod : ((s : Int)).tmod 65536 = ((s % 65536 : Nat) : Int) := by rw [Int.tmod_eq_emod_of_nonneg (by omega)]; omega
  have hm : s % 65536 < 65536 := Nat.mod_lt _ (by omega)
  generalize s % 65536 = r at *
  have hc' := fun ob => cell_over hc ob
  clear hn hx hv hc hs hv1 hv2
  by_cases h1 : s < 2147483648
  · have hI : ((s : Int) < 2147483648) = True := eq_true (by omega)
    have hJ : ((2147483648 : Int) ≤ (s : Int)) = False := eq_false (by omega)
    by_cases h2 : 2 ≤ ver
    · rw [if_pos ⟨h1, h2⟩]
      clear h1
      go_enter Tryz.func71, Tryz.ntmps71
      go_wp2
      go_ret
      exact ⟨ret_int (by omega), (Below.refl _ _).alloc (Nat.le_refl _) _⟩
    · rw [if_neg (fun h => h2 h.2)]
      clear h1
      go_enter Tryz.func71, Tryz.ntmps71
      go_wp2
      go_ret
      exact ⟨rfl, (Below.refl _ _).alloc (Nat.le_refl _) _⟩
  · rw [if_neg (fun h => h1 h.1)]
    have hI : ((s : Int) < 2147483648) = False := eq_false (by omega)
    have hJ : ((2147483648 : Int) ≤ (s : Int)) = True := eq_true (by omega)
    clear h1
    go_enter Tryz.func71, Tryz.ntmps71
    go_wp2
    go_ret
    exact ⟨rfl, (Below.refl _ _).alloc (Nat.le_refl _) _⟩

def isIn (t : PTx) (i : Int) : Bool := decide (0 ≤ i ∧ i < t.ins.length)
set_option maxHeartbeats 1000000 in
theorem is_any (v : Value) (t : PTx) (i : Int) (w : World) (hv : TxAt w v t) :
    Calls Tryz.prog 49 #[v, .int .i64 i] w fun e w' => e = .returned (.bool (isIn t i)) ∧ Below w.heap.size w w' := by
  obtain ⟨a, u, rfl, h1, h2, -, -⟩ := hv
  obtain ⟨au, cu, rfl, -, -⟩ := h2.shape
  obtain ⟨a', c, rfl, hl1, hl2⟩ := h1.shape
  rw [maxLen_eq] at hl2
  unfold isIn
  generalize t.ins.length = n at *
  generalize t.outs.length = nu at *
  clear h1 h2
  go_enter Tryz.func49, Tryz.ntmps49
  by_cases h0 : 0 ≤ i
  · go_wp2
    go_ret
    exact ⟨ret_bool (by simp; try omega), (Below.refl _ _).alloc (Nat.le_refl _) _⟩
  · go_wp2
    go_ret
    exact ⟨ret_bool (by simp; try omega), (Below.refl _ _).alloc (Nat.le_refl _) _⟩

def okHeight (n : Int) : Bool := decide (0 ≤ n ∧ n ≤ 1000000)
theorem height_any (n : Int) (w : World) : Calls Tryz.prog 52 #[.int .i64 n] w fun e w' => e = .returned (.bool (okHeight n)) ∧ w = w' := by
  unfold okHeight
  go_enter Tryz.func52, Tryz.ntmps52
  by_cases h0 : 0 ≤ n
  · go_wp2
    go_ret
    exact ⟨ret_bool (by simp; try omega), rfl⟩
  · go_wp2
    go_ret
    exact ⟨ret_bool (by simp; try omega), rfl⟩

end Go.Proofs.YtelindgnkpfkiaaGreatDoor
end

section
/-
  Locks, the tenth part: the branch that a witness opens. Conditions: none beyond each theorem's own.
-/
namespace Go.Proofs.YtelindgnkpfkiaaGreatDoor
open Go.RowKit Go.BigFrame
set_option linter.unusedVariables false

theorem lget_none {s : ByteArray} (h : lockGet s = none) (hs : s.size ≤ 9223372036854775807) (w : World) : Calls Tryz.prog 28 #[.string s] w fun e w' => ∃ v, e = .returned (.tuple #[v, .int .i64 4]) ∧ Below w.heap.size w w' :=
  (lget_any s hs w).mono fun e w' ⟨v, h1, h2, h3, _⟩ => ⟨v, by rw [h1, h]; rfl, h3⟩
theorem lget_some {s : ByteArray} {l : List PBr} (h : lockGet s = some l) (hs : s.size ≤ 9223372036854775807) (w : World) : Calls Tryz.prog 28 #[.string s] w fun e w' => ∃ v, e = .returned (.tuple #[v, .int .i64 0]) ∧ SlAt rpBr w' v l ∧ (∀ k, v.ownBlock = some k → w.heap.size ≤ k) ∧ Below w.heap.size w w' :=
  (lget_any s hs w).mono fun e w' ⟨v, h1, h2, h3, h4⟩ => ⟨v, by rw [h1, h]; rfl, by rw [h] at h2; exact h2, h4, h3⟩
theorem lsig_none {v : Value} {ws : List ByteArray} {w : World} (h : signedOf ws = none) (hv : SlAt rpStr w v ws) : Calls Tryz.prog 76 #[v] w fun e w' => e = .returned (.tuple #[.int .i64 0, .int .u16 0, .int .i64 4]) ∧ Below w.heap.size w w' :=
  (signed_any v ws w hv).mono fun e w' ⟨h1, h3⟩ => ⟨by rw [h1, h]; rfl, h3⟩
theorem lsig_some {v : Value} {ws : List ByteArray} {w : World} {n t : Nat} (h : signedOf ws = some (n, t)) (hv : SlAt rpStr w v ws) : Calls Tryz.prog 76 #[v] w fun e w' => e = .returned (.tuple #[.int .i64 n, .int .u16 t, .int .i64 0]) ∧ Below w.heap.size w w' :=
  (signed_any v ws w hv).mono fun e w' ⟨h1, h3⟩ => ⟨by rw [h1, h]; rfl, h3⟩

/-- The branch that a witness opens, and whether it may. -/
def chosenOf (s : ByteArray) (ws : List ByteArray) : PBr × Bool :=
  match lockGet s, signedOf ws with
  | some l, some (n, t) => match l[n]? with | some x => (x, x.tag == 0 || x.tag == t) | none => (⟨0, 0, 0⟩, false)
  | _, _ => (⟨0, 0, 0⟩, false)
def brV (x : PBr) : Value := .agg #[.int .u16 x.tag, .int .u16 x.delay, .int .u32 x.height]
def ChosenIs (s : ByteArray) (ws : List ByteArray) (w : World) (e : Ending) (w' : World) : Prop := e = .returned (.tuple #[brV (chosenOf s ws).1, .bool (chosenOf s ws).2]) ∧ Below w.heap.size w w'
theorem chosen_is {s : ByteArray} {ws : List ByteArray} {w w' : World} {x : PBr} {b b' : Bool} (h : chosenOf s ws = (x, b)) (hbb : b' = b) (hb : Below w.heap.size w w') : ChosenIs s ws w (.returned (.tuple #[.agg #[.int .u16 x.tag, .int .u16 x.delay, .int .u32 x.height], .bool b'])) w' := by
  unfold ChosenIs; rw [h, hbb]; exact ⟨rfl, hb⟩
theorem signedOf_lt {ws : List ByteArray} {n t : Nat} (h : signedOf ws = some (n, t)) : n < 3 ∧ t < 65536 := by
  unfold signedOf at h
  split at h
  · rename_i x
    split at h
    · rename_i a b c hx
      split at h
      · rename_i h3
        obtain ⟨rfl, rfl⟩ : a.toNat = n ∧ b.toNat + 256 * c.toNat = t := by simpa using h
        have := b.toNat_lt
        have := c.toNat_lt
        exact ⟨h3, by omega⟩
      · cases h
    · cases h
  · cases h

theorem lsig_ex {v : Value} {ws : List ByteArray} {w : World} (hv : SlAt rpStr w v ws) : Calls Tryz.prog 76 #[v] w fun e w' => ∃ (n t x : Int), e = .returned (.tuple #[.int .i64 n, .int .u16 t, .int .i64 x]) ∧ Below w.heap.size w w' :=
  (signed_any v ws w hv).mono fun e w' ⟨h1, h3⟩ => ⟨_, _, _, h1, h3⟩

set_option maxRecDepth 100000 in
set_option maxHeartbeats 2000000 in
theorem chosen_any (s : ByteArray) (hs : s.size ≤ 9223372036854775807) (v : Value) (ws : List ByteArray) (w : World) (hv : SlAt rpStr w v ws) :
    Calls Tryz.prog 50 #[.string s, v] w (ChosenIs s ws w) := by
  obtain ⟨va, vc, rfl, -, -⟩ := hv.shape
  have HV := Lib.hid hv
  have hb0 : ∀ ob, Below w.heap.size w (w.alloc ob) := fun ob => (Below.refl _ _).alloc (Nat.le_refl _) ob
  have HB0 := Lib.hid hb0
  have hcl : ∀ ob w1, Below (w.alloc ob).heap.size (w.alloc ob) w1 → w1.heap[w.heap.size]? = some ob := fun ob w1 h => (h.block w.heap.size (by simp)).trans (heap_alloc_new w ob)
  have HCL := Lib.hid hcl
  clear hv hb0 hcl
  have hno : (lockGet s = none ∨ signedOf ws = none) → chosenOf s ws = (⟨0, 0, 0⟩, false) := by
    rintro (h | h) <;> unfold chosenOf <;> rw [h]
    split <;> rename_i h1 <;> simp_all
  have HNO := Lib.hid hno
  clear hno
  cases hg : lockGet s with
  | none =>
    have HC := Lib.hid (lget_none hg hs)
    have HG := Lib.hid hg
    clear hg
    go_enter Tryz.func50, Tryz.ntmps50
    go_wp2_with fail
    refine (HC.out _).mono ?_
    rintro e w1 ⟨u, rfl, hb1⟩
    have hblk := HCL.out _ _ hb1
    have hw1 := (HB0.out _).trans (hb1.mono (by simp))
    have HW1 := Lib.hid hw1
    have HK1 := Lib.hid hblk
    clear hb1 hblk hw1
    have HV1 := Lib.hid (HV.out.below HW1.out)
    go_wp2_with fail
    refine (lsig_ex HV1.out).mono ?_
    rintro e w2 ⟨n, t, x, rfl, hb2⟩
    have hblk2 : w2.heap[w.heap.size]? = some (.cells #[.int .u16 0, .int .u16 0, .int .u32 0] 81) := (hb2.block _ (Array.getElem?_eq_some_iff.1 HK1.out).1).trans HK1.out
    have c0 : w2.cell? ⟨w.heap.size, 0, none⟩ = some (.int .u16 0) := cell_at hblk2
    have c1 : w2.cell? ⟨w.heap.size, 1, none⟩ = some (.int .u16 0) := cell_at hblk2
    have c2 : w2.cell? ⟨w.heap.size, 2, none⟩ = some (.int .u32 0) := cell_at hblk2
    have f0 : w2.frozen? ⟨w.heap.size, 0, none⟩ = false := free_at hblk2
    have f1 : w2.frozen? ⟨w.heap.size, 1, none⟩ = false := free_at hblk2
    have f2 : w2.frozen? ⟨w.heap.size, 2, none⟩ = false := free_at hblk2
    have hw2 := HW1.out.trans (hb2.mono HW1.out.size)
    have HW2 := Lib.hid hw2
    clear hb2 hblk2 hw2
    go_wp2
    exact bodyPost_ret (v := .tuple #[.agg #[.int .u16 (0 : Nat), .int .u16 (0 : Nat), .int .u32 (0 : Nat)], .bool false]) (by simp [results, Tryz.results50, go_sem, c0, c1, c2]) rfl (chosen_is (x := ⟨0, 0, 0⟩) (HNO.out (.inl HG.out)) rfl (((HW2.out.setCell (Nat.le_refl _) _).setCell (Nat.le_refl _) _).setCell (Nat.le_refl _) _))
  | some l =>
    have HC := Lib.hid (lget_some hg hs)
    cases hsg : signedOf ws with
    | none =>
      have HG := Lib.hid hsg
      clear hg hsg
      go_enter Tryz.func50, Tryz.ntmps50
      go_wp2_with fail
      refine (HC.out _).mono ?_
      rintro e w1 ⟨u, rfl, hu, hob, hb1⟩
      have hblk := HCL.out _ _ hb1
      have hw1 := (HB0.out _).trans (hb1.mono (by simp))
      have HW1 := Lib.hid hw1
      have HK1 := Lib.hid hblk
      clear hb1 hblk hw1
      have HV1 := Lib.hid (HV.out.below HW1.out)
      clear hu hob
      go_wp2_with fail
      refine (lsig_none HG.out HV1.out).mono ?_
      rintro e w2 ⟨rfl, hb2⟩
      have hblk2 : w2.heap[w.heap.size]? = some (.cells #[.int .u16 0, .int .u16 0, .int .u32 0] 81) := (hb2.block _ (Array.getElem?_eq_some_iff.1 HK1.out).1).trans HK1.out
      have c0 : w2.cell? ⟨w.heap.size, 0, none⟩ = some (.int .u16 0) := cell_at hblk2
      have c1 : w2.cell? ⟨w.heap.size, 1, none⟩ = some (.int .u16 0) := cell_at hblk2
      have c2 : w2.cell? ⟨w.heap.size, 2, none⟩ = some (.int .u32 0) := cell_at hblk2
      have f0 : w2.frozen? ⟨w.heap.size, 0, none⟩ = false := free_at hblk2
      have f1 : w2.frozen? ⟨w.heap.size, 1, none⟩ = false := free_at hblk2
      have f2 : w2.frozen? ⟨w.heap.size, 2, none⟩ = false := free_at hblk2
      have hw2 := HW1.out.trans (hb2.mono HW1.out.size)
      have HW2 := Lib.hid hw2
      clear hb2 hblk2 hw2
      go_wp2
      exact bodyPost_ret (v := .tuple #[.agg #[.int .u16 (0 : Nat), .int .u16 (0 : Nat), .int .u32 (0 : Nat)], .bool false]) (by simp [results, Tryz.results50, go_sem, c0, c1, c2]) rfl (chosen_is (x := ⟨0, 0, 0⟩) (HNO.out (.inr HG.out)) rfl (((HW2.out.setCell (Nat.le_refl _) _).setCell (Nat.le_refl _) _).setCell (Nat.le_refl _) _))
    | some nt =>
      obtain ⟨n, t⟩ := nt
      obtain ⟨hn3, ht⟩ := signedOf_lt hsg
      by_cases hnl : n < l.length
      case neg =>
        have hch : chosenOf s ws = (⟨0, 0, 0⟩, false) := by
          unfold chosenOf; rw [hg, hsg]; dsimp only; rw [List.getElem?_eq_none (by omega)]
        have HCH := Lib.hid hch
        have HG := Lib.hid hsg
        clear hg hsg hch
        go_enter Tryz.func50, Tryz.ntmps50
        go_wp2_with fail
        refine (HC.out _).mono ?_
        rintro e w1 ⟨u, rfl, hu, hob, hb1⟩
        have hblk := HCL.out _ _ hb1
        have hw1 := (HB0.out _).trans (hb1.mono (by simp))
        have HW1 := Lib.hid hw1
        have HK1 := Lib.hid hblk
        clear hb1 hblk hw1
        have HV1 := Lib.hid (HV.out.below HW1.out)
        obtain ⟨ua, uc, rfl, hul, hum⟩ := hu.shape
        rw [maxLen_eq] at hum
        clear hu hob
        go_wp2_with fail
        refine (lsig_some HG.out HV1.out).mono ?_
        rintro e w2 ⟨rfl, hb2⟩
        have hblk2 : w2.heap[w.heap.size]? = some (.cells #[.int .u16 0, .int .u16 0, .int .u32 0] 81) := (hb2.block _ (Array.getElem?_eq_some_iff.1 HK1.out).1).trans HK1.out
        have c0 : w2.cell? ⟨w.heap.size, 0, none⟩ = some (.int .u16 0) := cell_at hblk2
        have c1 : w2.cell? ⟨w.heap.size, 1, none⟩ = some (.int .u16 0) := cell_at hblk2
        have c2 : w2.cell? ⟨w.heap.size, 2, none⟩ = some (.int .u32 0) := cell_at hblk2
        have f0 : w2.frozen? ⟨w.heap.size, 0, none⟩ = false := free_at hblk2
        have f1 : w2.frozen? ⟨w.heap.size, 1, none⟩ = false := free_at hblk2
        have f2 : w2.frozen? ⟨w.heap.size, 2, none⟩ = false := free_at hblk2
        have hw2 := HW1.out.trans (hb2.mono HW1.out.size)
        have HW2 := Lib.hid hw2
        clear hb2 hblk2 hw2
        go_wp2
        exact bodyPost_ret (v := .tuple #[.agg #[.int .u16 (0 : Nat), .int .u16 (0 : Nat), .int .u32 (0 : Nat)], .bool false]) (by simp [results, Tryz.results50, go_sem, c0, c1, c2]) rfl (chosen_is (x := ⟨0, 0, 0⟩) HCH.out rfl (((HW2.out.setCell (Nat.le_refl _) _).setCell (Nat.le_refl _) _).setCell (Nat.le_refl _) _))
      case pos =>
        have hx0 : l[n]? = some l[n] := List.getElem?_eq_getElem hnl
        obtain ⟨y, hy⟩ : ∃ y, l[n]? = some y := ⟨_, hx0⟩
        have hch : chosenOf s ws = (y, y.tag == 0 || y.tag == t) := by
          unfold chosenOf; rw [hg, hsg]; dsimp only; rw [hy]
        have HCH := Lib.hid hch
        have HG := Lib.hid hsg
        have HY := Lib.hid hy
        clear hg hsg hch hx0 hy
        go_enter Tryz.func50, Tryz.ntmps50
        go_wp2_with fail
        refine (HC.out _).mono ?_
        rintro e w1 ⟨u, rfl, hu, hob, hb1⟩
        have hblk := HCL.out _ _ hb1
        have hw1 := (HB0.out _).trans (hb1.mono (by simp))
        have HW1 := Lib.hid hw1
        have HK1 := Lib.hid hblk
        clear hb1 hblk hw1
        have HV1 := Lib.hid (HV.out.below HW1.out)
        obtain ⟨ua, uc, rfl, hul, hum⟩ := hu.shape
        rw [maxLen_eq] at hum
        have HU := Lib.hid hu
        clear hu
        go_wp2_with fail
        refine (lsig_some HG.out HV1.out).mono ?_
        rintro e w2 ⟨rfl, hb2⟩
        obtain ⟨b, o, x, rfl, hx, hxo, d0, d1, d2⟩ := (HU.out.below hb2).br hnl
        have hbne : b ≠ w.heap.size := by have := hob b rfl; simp at this; omega
        obtain rfl : y = x := by have := HY.out; rw [hx] at this; exact (Option.some.inj this).symm
        obtain ⟨y1, y2, y3⟩ := y
        obtain ⟨ht1, ht2, ht3⟩ := hxo
        dsimp only at d0 d1 d2 ht1 ht2 ht3
        have hblk2 : w2.heap[w.heap.size]? = some (.cells #[.int .u16 0, .int .u16 0, .int .u32 0] 81) := (hb2.block _ (Array.getElem?_eq_some_iff.1 HK1.out).1).trans HK1.out
        have c0 : w2.cell? ⟨w.heap.size, 0, none⟩ = some (.int .u16 0) := cell_at hblk2
        have c1 : w2.cell? ⟨w.heap.size, 1, none⟩ = some (.int .u16 0) := cell_at hblk2
        have c2 : w2.cell? ⟨w.heap.size, 2, none⟩ = some (.int .u32 0) := cell_at hblk2
        have f0 : w2.frozen? ⟨w.heap.size, 0, none⟩ = false := free_at hblk2
        have f1 : w2.frozen? ⟨w.heap.size, 1, none⟩ = false := free_at hblk2
        have f2 : w2.frozen? ⟨w.heap.size, 2, none⟩ = false := free_at hblk2
        have hw2 := HW1.out.trans (hb2.mono HW1.out.size)
        have HW2 := Lib.hid hw2
        clear hb2 hblk2 hw2 hx ht3 ht2
        go_wp2_with fail
        have hbne' : ¬ (w.heap.size = b) := fun h => hbne h.symm
        have hfin : ∀ (q : PBr) (bb : Bool) (w3 : World), chosenOf s ws = (q, bb) → Below w.heap.size w w3 → ∀ b', b' = bb → ChosenIs s ws w (.returned (.tuple #[.agg #[.int .u16 q.tag, .int .u16 q.delay, .int .u32 q.height], .bool b'])) w3 := fun q bb w3 h1 h2 b' h3 => chosen_is h1 h3 h2
        have HFIN := Lib.hid hfin
        clear hfin hob
        by_cases hz : y1 = 0
        · subst hz
          go_region
          all_goals
            go_wp2
            exact bodyPost_ret (v := .tuple #[.agg #[.int .u16 (0 : Nat), .int .u16 y2, .int .u32 y3], .bool true]) (by simp [results, Tryz.results50, go_sem, c0, c1, c2]) rfl (HFIN.out ⟨0, y2, y3⟩ _ _ HCH.out (((HW2.out.drew.setCell (Nat.le_refl _) _).setCell (Nat.le_refl _) _).setCell (Nat.le_refl _) _) _ rfl)
        · have hzi : ((y1 : Int) == 0) = false := by rw [beq_eq_false_iff_ne]; omega
          have hbt : ((y1 : Int) == t) = (y1 == 0 || y1 == t) := by
            have : (y1 == 0) = false := by simpa using hz
            rw [this, Bool.false_or, Bool.eq_iff_iff, beq_iff_eq, beq_iff_eq]
            omega
          have HBT := Lib.hid hbt
          clear hbt
          go_region
          all_goals
            go_wp2
            exact bodyPost_ret (v := .tuple #[.agg #[.int .u16 y1, .int .u16 y2, .int .u32 y3], .bool ((y1 : Int) == t)]) (by simp [results, Tryz.results50, go_sem, c0, c1, c2]) rfl (HFIN.out ⟨y1, y2, y3⟩ _ _ HCH.out (((HW2.out.drew.setCell (Nat.le_refl _) _).setCell (Nat.le_refl _) _).setCell (Nat.le_refl _) _) _ HBT.out)

end Go.Proofs.YtelindgnkpfkiaaGreatDoor
end

section
/-
  Locks, the eleventh part: does a lock open? Conditions: none beyond each theorem's own.
-/
namespace Go.Proofs.YtelindgnkpfkiaaGreatDoor
open Go.RowKit Go.BigFrame
set_option linter.unusedVariables false

def openAt (s : ByteArray) (t : PTx) (k : Nat) (x : PIn) : Int :=
  if (chosenOf s x.wit).2 = false then 9 else if waitsOf t k < (chosenOf s x.wit).1.delay then 10
  else if 0 < (chosenOf s x.wit).1.height ∧ (t.lock < (chosenOf s x.wit).1.height ∨ x.seq = 4294967295) then 10 else 0
def openOf (s : ByteArray) (t : PTx) (i : Int) : Int := if isIn t i then (match t.ins[i.toNat]? with | some x => openAt s t i.toNat x | none => 2) else 2
theorem openOf_no {s : ByteArray} {t : PTx} {i : Int} (h : isIn t i = false) : openOf s t i = 2 := by unfold openOf; rw [h]; rfl
theorem openOf_at {s : ByteArray} {t : PTx} {k : Nat} {x : PIn} (h : t.ins[k]? = some x) : openOf s t k = openAt s t k x := by
  have hk := (List.getElem?_eq_some_iff.1 h).1
  have : isIn t k = true := by unfold isIn; simp; omega
  unfold openOf
  rw [this]
  simp [h]
theorem isIn_nat {t : PTx} {i : Int} (h : isIn t i = true) : ∃ k : Nat, i = k ∧ k < t.ins.length := by
  unfold isIn at h
  simp at h
  exact ⟨i.toNat, by omega, by omega⟩
def OpenIs (s : ByteArray) (t : PTx) (i : Int) (w : World) (e : Ending) (w' : World) : Prop := e = .returned (.int .i64 (openOf s t i)) ∧ Below w.heap.size w w'
theorem open_is {s : ByteArray} {t : PTx} {i n : Int} {w w' : World} (h : openOf s t i = n) (hb : Below w.heap.size w w') : OpenIs s t i w (.returned (.int .i64 n)) w' := by unfold OpenIs; rw [h]; exact ⟨rfl, hb⟩

theorem chosen_lt {s : ByteArray} {ws : List ByteArray} : (chosenOf s ws).1.Ok := by
  have key : ∀ l, lockGet s = some l → ∀ x ∈ l, x.Ok := by
    intro l h x hx
    unfold lockGet at h
    split at h
    · obtain rfl : brs s (firstB s) = l := by simpa using h
      obtain ⟨i, _, rfl⟩ := List.mem_map.1 hx
      exact brAt_ok s i
    · cases h
  unfold chosenOf
  split
  · rename_i l n t hl hs
    split
    · rename_i x hx
      exact key l hl x (List.mem_of_getElem? hx)
    · exact ⟨by decide, by decide, by decide⟩
  · exact ⟨by decide, by decide, by decide⟩

set_option maxRecDepth 100000 in
set_option maxHeartbeats 2000000 in
theorem open_any (s : ByteArray) (hs : s.size ≤ 9223372036854775807) (v : Value) (t : PTx) (i : Int) (w : World) (hv : TxAt w v t) :
    Calls Tryz.prog 22 #[.string s, v, .int .i64 i] w (OpenIs s t i w) := by
  cases hin : isIn t i
  case false =>
    have hv0 := hv
    obtain ⟨a, u, rfl, h1, h2, -, -⟩ := hv0
    obtain ⟨au, cu, rfl, -, -⟩ := h2.shape
    obtain ⟨aa, ca, rfl, -, -⟩ := h1.shape
    have his := fun w' hw' => is_any _ t i w' (hv.mono hw')
    rw [hin] at his
    have HIS := Lib.hid his
    have HO := Lib.hid (openOf_no (s := s) hin)
    clear hv h1 h2 his hin hs
    go_enter Tryz.func22, Tryz.ntmps22
    go_wp2_with fail
    refine (HIS.out _ (fun p v hp => cell_over hp _)).mono ?_
    rintro e w1 ⟨rfl, hb1⟩
    go_wp2
    go_ret
    exact open_is HO.out (((Below.refl _ _).alloc (Nat.le_refl _) _).trans (hb1.mono (by simp)))
  case true =>
    obtain ⟨k, rfl, hk⟩ := isIn_nat hin
    obtain ⟨b, o, n, c, au, nu, cu, x, wv, rfl, hn, hnm, hx, hseq, hver, hlock, hwit, hc2, hc3⟩ := tx_in hv hk
    have his := fun w' hw' => is_any _ t k w' (hv.mono hw')
    rw [hin] at his
    have hwt := fun w' hw' => waits_any _ t k w' (hv.mono hw') hk
    have hwl := waitsOf_lt t k
    have ho := openOf_at (s := s) hx
    obtain ⟨hok1, hok2, hok3⟩ := chosen_lt (s := s) (ws := x.wit)
    have hch := fun w' hw' => chosen_any s hs wv x.wit w' (hwit.mono hw')
    unfold ChosenIs brV at hch
    unfold openAt at ho
    rw [hn.symm] at hk
    obtain ⟨wf, hwf⟩ : ∃ wf, waitsOf t k = wf := ⟨_, rfl⟩
    rw [hwf] at hwt hwl ho
    generalize (chosenOf s x.wit).2 = cb at *
    generalize (chosenOf s x.wit).1.tag = g1 at *
    generalize (chosenOf s x.wit).1.delay = g2 at *
    generalize (chosenOf s x.wit).1.height = g3 at *
    have HIS := Lib.hid his
    have HWT := Lib.hid hwt
    have HCH := Lib.hid hch
    have HO := Lib.hid ho
    clear his hwt hch ho hin hv hx hwit hs hwf hn
    generalize x.seq = sq at *
    generalize t.ver = ver at *
    generalize t.lock = lk at *
    go_enter Tryz.func22, Tryz.ntmps22
    go_wp2_with fail
    refine (HIS.out _ (fun p v hp => cell_over hp _)).mono ?_
    rintro e w1 ⟨rfl, hb1⟩
    have e1 : w1.heap[w.heap.size]? = _ := (hb1.block w.heap.size (by simp)).trans (heap_alloc_new w _)
    have hw1 : Below w.heap.size w w1 := ((Below.refl _ _).alloc (Nat.le_refl _) _).trans (hb1.mono (by simp))
    have hsz1 : w.heap.size < w1.heap.size := (Array.getElem?_eq_some_iff.1 e1).1
    have q0 : w1.cell? ⟨w.heap.size, 0, none⟩ = _ := cell_at e1
    have q1 : w1.cell? ⟨w.heap.size, 1, none⟩ = _ := cell_at e1
    have q2 : w1.cell? ⟨w.heap.size, 2, none⟩ = _ := cell_at e1
    have q3 : w1.cell? ⟨w.heap.size, 3, none⟩ = _ := cell_at e1
    have p2 := below_cells hw1 _ _ hc2
    have p3 := below_cells hw1 _ _ hc3
    have hx1 : Below w1.heap.size w1 w1 := Below.refl _ _
    have HW1 := Lib.hid hw1
    have HMONO := Lib.hid (below_cells hw1)
    have HE1 := Lib.hid e1
    clear hb1 e1 hw1 hx1 hc2 hc3
    go_wp2_with fail
    refine (HCH.out _ HMONO.out).mono ?_
    rintro e w2 ⟨rfl, hb2⟩
    have hsz2 := hb2.size
    have e2 := (hb2.block w.heap.size hsz1).trans HE1.out
    have hw2 := HW1.out.trans (hb2.mono (Nat.le_of_lt hsz1))
    obtain ⟨wa, hwa⟩ : ∃ wa, wa = w2.alloc (.cells #[.int .u16 g1, .int .u16 g2, .int .u32 g3] 81) := ⟨_, rfl⟩
    obtain ⟨C, hC⟩ : ∃ C : World → Prop, C = fun w' => Below (w2.heap.size + 1) wa w' := ⟨_, rfl⟩
    have hwab : Below w2.heap.size w2 wa := by subst hwa; exact (Below.refl _ _).alloc (Nat.le_refl _) _
    have hk0 : ∀ y : Kin C, Below w2.heap.size w2 y.w := by intro ⟨y, h⟩; subst hC; exact hwab.trans (h.mono (Nat.le_succ _))
    have hkw : ∀ y : Kin C, Below w.heap.size w y.w := fun y => hw2.trans ((hk0 y).mono (Nat.le_trans (Nat.le_of_lt hsz1) hsz2))
    have hcx : ∀ (p : Addr) (u : Value), w2.cell? p = some u → ∀ y : Kin C, y.w.cell? p = some u := fun p u hp y => below_cells (hk0 y) p u hp
    have r0 := hcx _ _ (cell_at (j := 0) e2)
    have r1 := hcx _ _ (cell_at (j := 1) e2)
    have r2 := hcx _ _ (cell_at (j := 2) e2)
    have r3 := hcx _ _ (cell_at (j := 3) e2)
    have r5 := hcx _ _ (below_cells hb2 _ _ p2)
    have hnew : ∀ j u, (#[Value.int .u16 g1, .int .u16 g2, .int .u32 g3] : Array Value)[j]? = some u → ∀ y : Kin C, y.w.cell? ⟨w2.heap.size, j, none⟩ = some u := by
      intro j u hj ⟨y, h⟩
      subst hC
      subst hwa
      exact (h.cell (by simp)).trans (by rw [cell_at (heap_alloc_new w2 _)]; exact hj)
    have s0 := hnew 0 _ rfl
    have s1 := hnew 1 _ rfl
    have s2 := hnew 2 _ rfl
    have hstep : ∀ (y : Kin C) (w' : World), Below y.w.heap.size y.w w' → C w' := by
      intro ⟨y, h⟩ w' h2; subst hC; exact h.trans (h2.mono (by have := h.size; rw [hwa] at this; simpa using this))
    have HST := Lib.hid hstep
    have HC := Lib.hid hC
    have HKW := Lib.hid hkw
    have HWM := Lib.hid (fun y : Kin C => below_cells (hkw y))
    have HWA := Lib.hid hwa
    have HW2 := Lib.hid hw2
    clear hb2 e2 hw2 hwab hk0 hkw hcx hnew hstep hC q0 q1 q2 q3 p2 p3
    cases cb
    · have HO2 := Lib.hid HO.out
      clear r0 r1 r2 r3 r5 s0 s1 s2 hwa
      go_wp2_with fail
      go_ret
      exact open_is (by rw [HO.out]; rfl) (HW2.out.alloc HW2.out.size _)
    · go_wp2_with fail
      rw [← hwa]
      clear hwa
      refine wp_region_kin C (by kernel_rfl) (by kernel_rfl) (by rw [HC.out]; exact (Below.refl _ _).drew) ?_
      intro hne
      repeat (first | (go_big_quiet_step ((rename_i y; go_at_call 51; exact Calls.kin (HWT.out _ (HWM.out y)) (HST.out y)))) | (quiet_step ((rename_i y; go_at_call 51; exact Calls.kin (HWT.out _ (HWM.out y)) (HST.out y)))))
      refine wpQuiet_nil ?_
      intro _ hw'
      obtain ⟨kx, hw''⟩ := hw'
      subst hw''
      have HFIN := Lib.hid (HKW.out kx)
      by_cases h1 : wf < g2
      · go_wp2
        go_ret
        exact open_is (by rw [HO.out, if_neg (by decide), if_pos h1]) HFIN.out
      by_cases h2 : 0 < g3
      case neg =>
        go_wp2
        go_ret
        exact open_is (by rw [HO.out, if_neg (by decide), if_neg h1, if_neg (fun h => h2 h.1)]) HFIN.out
      by_cases h3 : lk < g3
      · go_wp2
        go_ret
        exact open_is (by rw [HO.out, if_neg (by decide), if_neg h1, if_pos ⟨h2, .inl h3⟩]) HFIN.out
      by_cases h4 : sq = 4294967295
      · have hb4 : ((sq : Int) == 4294967295) = true := by rw [beq_iff_eq]; omega
        have H4 := Lib.hid h4
        clear h4
        go_wp2
        go_ret
        exact open_is (by rw [HO.out, if_neg (by decide), if_neg h1, if_pos ⟨h2, .inr H4.out⟩]) HFIN.out
      · have hb4 : ((sq : Int) == 4294967295) = false := by rw [beq_eq_false_iff_ne]; omega
        have H4 := Lib.hid h4
        clear h4
        go_wp2
        go_ret
        exact open_is (by rw [HO.out, if_neg (by decide), if_neg h1, if_neg (fun h => h.2.elim h3 H4.out)]) HFIN.out

end Go.Proofs.YtelindgnkpfkiaaGreatDoor
end

section
/-
  Locks, the twelfth part: the document's Open. Conditions: none beyond each theorem's own.
-/
namespace Go.Proofs.YtelindgnkpfkiaaGreatDoor
open Go.RowKit Go.BigFrame
set_option linter.unusedVariables false

theorem rsig_none {v : Value} {ws : List ByteArray} {w : World} (h : signedOf ws = none) (hv : SlAt rpStr w v ws) : Calls Tryz.prog 70 #[v] w fun e w' => e = .returned (.tuple #[.int .i64 (-1), .int .i64 0]) ∧ Below w.heap.size w w' :=
  (rsigned_any v ws w hv).mono fun e w' ⟨h1, h3⟩ => ⟨by rw [h1, h]; rfl, h3⟩
theorem rsig_some {v : Value} {ws : List ByteArray} {w : World} {n t : Nat} (h : signedOf ws = some (n, t)) (hv : SlAt rpStr w v ws) : Calls Tryz.prog 70 #[v] w fun e w' => e = .returned (.tuple #[.int .i64 n, .int .i64 t]) ∧ Below w.heap.size w w' :=
  (rsigned_any v ws w hv).mono fun e w' ⟨h1, h3⟩ => ⟨by rw [h1, h]; rfl, h3⟩

theorem chosen_none {s : ByteArray} {ws : List ByteArray} (h : signedOf ws = none) : chosenOf s ws = (⟨0, 0, 0⟩, false) := by
  unfold chosenOf; rw [h]; split <;> simp_all
theorem chosen_out {s : ByteArray} {ws : List ByteArray} {n t : Nat} (h : signedOf ws = some (n, t)) (hl : ¬ n < ((lockGet s).getD []).length) : chosenOf s ws = (⟨0, 0, 0⟩, false) := by
  unfold chosenOf; rw [h]
  cases hg : lockGet s with
  | none => rfl
  | some l =>
    rw [hg] at hl
    dsimp only
    rw [List.getElem?_eq_none (by simpa using hl)]
theorem chosen_in {s : ByteArray} {ws : List ByteArray} {n t : Nat} {x : PBr} (h : signedOf ws = some (n, t)) (hx : ((lockGet s).getD [])[n]? = some x) : chosenOf s ws = (x, x.tag == 0 || x.tag == t) := by
  unfold chosenOf; rw [h]
  cases hg : lockGet s with
  | none => rw [hg] at hx; simp at hx
  | some l =>
    rw [hg] at hx
    dsimp only
    rw [show l[n]? = some x from hx]

set_option maxRecDepth 100000 in
set_option maxHeartbeats 4000000 in
theorem ropen_any (s : ByteArray) (hs : s.size ≤ 9223372036854775807) (v : Value) (t : PTx) (i : Int) (w : World) (hv : TxAt w v t) :
    Calls Tryz.prog 44 #[.string s, v, .int .i64 i] w (OpenIs s t i w) := by
  cases hin : isIn t i
  case false =>
    have hv0 := hv
    obtain ⟨a, u, rfl, h1, h2, -, -⟩ := hv0
    obtain ⟨au, cu, rfl, -, -⟩ := h2.shape
    obtain ⟨aa, ca, rfl, -, hc⟩ := h1.shape
    rw [maxLen_eq] at hc
    have HO := Lib.hid (openOf_no (s := s) hin)
    have hor : i < 0 ∨ (t.ins.length : Int) ≤ i := by
      unfold isIn at hin
      rw [decide_eq_false_iff_not] at hin
      omega
    generalize t.ins.length = n at *
    clear hv h1 h2 hin hs
    have hfin : ∀ ob, Below w.heap.size w (w.alloc ob) := fun ob => (Below.refl _ _).alloc (Nat.le_refl _) _
    by_cases h0 : i < 0
    · clear hor
      go_enter Tryz.func44, Tryz.ntmps44
      go_wp2
      go_ret
      exact open_is HO.out (hfin _)
    · have hge : (n : Int) ≤ i := by omega
      clear hor
      go_enter Tryz.func44, Tryz.ntmps44
      go_wp2
      go_ret
      exact open_is HO.out (hfin _)
  case true =>
    obtain ⟨k, rfl, hk⟩ := isIn_nat hin
    obtain ⟨b, o, n, c, au, nu, cu, x, wv, rfl, hn, hnm, hx, hseq, hver, hlock, hwit, hc2, hc3⟩ := tx_in hv hk
    have hwt := fun w' hw' => rwaits_any _ t k w' (hv.mono hw') hk
    have hwl := waitsOf_lt t k
    have ho := openOf_at (s := s) hx
    have hget := rlget_any s hs
    unfold openAt at ho
    rw [hn.symm] at hk
    obtain ⟨wf, hwf⟩ : ∃ wf, waitsOf t k = wf := ⟨_, rfl⟩
    rw [hwf] at hwt hwl ho
    have HWT := Lib.hid hwt
    have HGET := Lib.hid hget
    have HO := Lib.hid ho
    have HV := Lib.hid hwit
    clear hwt ho hin hv hx hwit hs hwf hn hget
    generalize x.seq = sq at *
    generalize t.ver = ver at *
    generalize t.lock = lk at *
    go_enter Tryz.func44, Tryz.ntmps44
    go_wp2_with fail
    refine (HGET.out _).mono ?_
    rintro e w1 ⟨u, rfl, hu, hb1⟩
    have e1 : w1.heap[w.heap.size]? = _ := (hb1.block w.heap.size (by simp)).trans (heap_alloc_new w _)
    have hw1 : Below w.heap.size w w1 := ((Below.refl _ _).alloc (Nat.le_refl _) _).trans (hb1.mono (by simp))
    have hsz1 : w.heap.size < w1.heap.size := (Array.getElem?_eq_some_iff.1 e1).1
    have q1 : w1.cell? ⟨w.heap.size, 1, none⟩ = _ := cell_at e1
    have p3 := below_cells hw1 _ _ hc3
    have HW1 := Lib.hid hw1
    have HE1 := Lib.hid e1
    have HU := Lib.hid hu
    have HV1 := Lib.hid (HV.out.below hw1)
    obtain ⟨ua, uc, rfl, hul, hum⟩ := hu.shape
    rw [maxLen_eq] at hum
    have p2 := below_cells hw1 _ _ hc2
    have HP2 := Lib.hid p2
    clear hb1 e1 hw1 hc2 hc3 hu p2
    cases hsg : signedOf x.wit with
    | none =>
      have HS := Lib.hid (rsig_none hsg HV1.out)
      have HC := Lib.hid (chosen_none (s := s) hsg)
      clear hsg
      go_wp2_with fail
      refine HS.out.mono ?_
      rintro e w2 ⟨rfl, hb2⟩
      clear q1 p3
      go_wp2
      go_ret
      exact open_is (by rw [HO.out, HC.out]; rfl) (HW1.out.trans (hb2.mono (Nat.le_of_lt hsz1)))
    | some nt =>
      obtain ⟨m, tg⟩ := nt
      obtain ⟨hm3, htg⟩ := signedOf_lt hsg
      have HS := Lib.hid (rsig_some hsg HV1.out)
      by_cases hml : m < ((lockGet s).getD []).length
      case neg =>
        have HC := Lib.hid (chosen_out (s := s) hsg hml)
        clear hsg
        go_wp2_with fail
        refine HS.out.mono ?_
        rintro e w2 ⟨rfl, hb2⟩
        clear q1 p3
        generalize ((lockGet s).getD []).length = ll at *
        go_wp2
        go_ret
        exact open_is (by rw [HO.out, HC.out]; rfl) (HW1.out.trans (hb2.mono (Nat.le_of_lt hsz1)))
      case pos =>
        go_wp2_with fail
        refine HS.out.mono ?_
        rintro e w2 ⟨rfl, hb2⟩
        obtain ⟨bb, oo, y, rfl, hy, hyo, d0, d1, d2⟩ := (HU.out.below hb2).br hml
        have HC := Lib.hid (chosen_in (s := s) hsg hy)
        obtain ⟨y1, y2, y3⟩ := y
        obtain ⟨ht1, ht2, ht3⟩ := hyo
        dsimp only at d0 d1 d2 ht1 ht2 ht3
        have hw2 := HW1.out.trans (hb2.mono (Nat.le_of_lt hsz1))
        have e2 := (hb2.block w.heap.size hsz1).trans HE1.out
        have hsz2 : w.heap.size < w2.heap.size := Nat.lt_of_lt_of_le hsz1 hb2.size
        have HW2 := Lib.hid hw2
        have HE2 := Lib.hid e2
        have q0 : w2.cell? ⟨w.heap.size, 0, none⟩ = _ := cell_at e2
        have q1 : w2.cell? ⟨w.heap.size, 1, none⟩ = _ := cell_at e2
        have q2 : w2.cell? ⟨w.heap.size, 2, none⟩ = _ := cell_at e2
        have q3 : w2.cell? ⟨w.heap.size, 3, none⟩ = _ := cell_at e2
        have p2 := below_cells hb2 _ _ HP2.out
        have q0 := fun ob => cell_over q0 ob
        have q1 := fun ob => cell_over q1 ob
        have q2 := fun ob => cell_over q2 ob
        have q3 := fun ob => cell_over q3 ob
        have p2 := fun ob => cell_over p2 ob
        have HP := Lib.hid p2
        have HQ1 := Lib.hid q1
        have HQ3 := Lib.hid q3
        have hmm := below_cells hw2
        have HMM := Lib.hid hmm
        generalize ((lockGet s).getD []).length = ll at *
        clear hsg hb2 hy hw2 e2 hmm p3
        rename_i q1w1
        clear q1w1
        by_cases hz : y1 = 0 ∨ y1 = tg
        case neg =>
          have hz0 : ((y1 : Int) != 0) = true := by rw [bne_iff_ne]; omega
          have hz1 : ((y1 : Int) != tg) = true := by rw [bne_iff_ne]; omega
          have hcf : chosenOf s x.wit = (⟨y1, y2, y3⟩, false) := by
            rw [HC.out]
            have a1 : (y1 == 0) = false := by rw [beq_eq_false_iff_ne]; omega
            have a2 : (y1 == tg) = false := by rw [beq_eq_false_iff_ne]; omega
            dsimp only
            rw [a1, a2]
            rfl
          have HCF := Lib.hid hcf
          clear hz hcf
          go_wp2
          go_ret
          exact open_is (by rw [HO.out, HCF.out]; rfl) (HW2.out.alloc HW2.out.size _)
        case pos =>
          have hcf : chosenOf s x.wit = (⟨y1, y2, y3⟩, true) := by
            rw [HC.out]
            rcases hz with rfl | rfl <;> simp
          have HCF := Lib.hid hcf
          have hzz : (((y1 : Int) != 0) = false) ∨ (((y1 : Int) != 0) = true ∧ ((y1 : Int) != tg) = false) := by
            by_cases h0 : y1 = 0
            · subst h0; exact .inl rfl
            · right
              refine ⟨by rw [bne_iff_ne]; omega, ?_⟩
              have : y1 = tg := hz.resolve_left h0
              subst this
              simp
          clear hz hcf
          rcases hzz with hz0 | ⟨hz0, hz1⟩
          all_goals
            go_wp2_with fail
            refine (HWT.out _ (fun p u hp => cell_over (HMM.out p u hp) _)).mono ?_
            rintro e w3 ⟨rfl, hb3⟩
            have hn0 : ∀ j u, (#[Value.int .u16 y1, .int .u16 y2, .int .u32 y3] : Array Value)[j]? = some u → (w2.alloc (.cells #[.int .u16 y1, .int .u16 y2, .int .u32 y3] 81)).cell? ⟨w2.heap.size, j, none⟩ = some u :=
              fun j u h => by rw [cell_at (heap_alloc_new w2 _)]; exact h
            have g0 := below_cells hb3 _ _ (hn0 0 _ rfl)
            have g1 := below_cells hb3 _ _ (hn0 1 _ rfl)
            have g2 := below_cells hb3 _ _ (hn0 2 _ rfl)
            clear hn0
            have r1 := below_cells hb3 _ _ (HQ1.out _)
            have r3 := below_cells hb3 _ _ (HQ3.out _)
            have r5 := below_cells hb3 _ _ (HP.out _)
            have hw3 : Below w.heap.size w w3 := (HW2.out.alloc HW2.out.size _).trans (hb3.mono (by simp; omega))
            have HFIN := Lib.hid hw3
            clear q0 q1 q2 q3 p2 hb3 hw3 d0 d1 d2
            by_cases h1 : wf < y2
            · go_wp2
              go_ret
              exact open_is (by rw [HO.out, HCF.out, if_neg (by simp)]; dsimp only; rw [if_pos h1]) HFIN.out
            by_cases h2 : 0 < y3
            case neg =>
              go_wp2
              go_ret
              exact open_is (by rw [HO.out, HCF.out, if_neg (by simp)]; dsimp only; rw [if_neg h1, if_neg (fun h => h2 h.1)]) HFIN.out
            by_cases h3 : lk < y3
            · go_wp2
              go_ret
              exact open_is (by rw [HO.out, HCF.out, if_neg (by simp)]; dsimp only; rw [if_neg h1, if_pos ⟨h2, .inl h3⟩]) HFIN.out
            by_cases h4 : sq = 4294967295
            · have hb4 : ((sq : Int) == 4294967295) = true := by rw [beq_iff_eq]; omega
              have H4 := Lib.hid h4
              clear h4
              go_wp2
              go_ret
              exact open_is (by rw [HO.out, HCF.out, if_neg (by simp)]; dsimp only; rw [if_neg h1, if_pos ⟨h2, .inr H4.out⟩]) HFIN.out
            · have hb4 : ((sq : Int) == 4294967295) = false := by rw [beq_eq_false_iff_ne]; omega
              have H4 := Lib.hid h4
              clear h4
              go_wp2
              go_ret
              exact open_is (by rw [HO.out, HCF.out, if_neg (by simp)]; dsimp only; rw [if_neg h1, if_neg (fun h => h.2.elim h3 H4.out)]) HFIN.out

end Go.Proofs.YtelindgnkpfkiaaGreatDoor
end

section
/-
  Locks, the thirteenth part: is an input of another sequence than the last one there? Conditions: none beyond each theorem's own.
-/
namespace Go.Proofs.YtelindgnkpfkiaaGreatDoor
open Go.RowKit Go.BigFrame
set_option linter.unusedVariables false

def lastSeq (x : PIn) : Bool := decide (x.seq = 4294967295)
set_option maxRecDepth 100000 in
set_option maxHeartbeats 1000000 in
theorem ripe1_any (id : ByteArray) (idx s : Nat) (wa : Option Addr) (wn wc : Nat) (w : World) : Calls Tryz.prog 54 #[.agg #[.string id, .int .u32 idx, .int .u32 s, .slice wa wn wc]] w fun e w' => e = .returned (.bool (!decide (s = 4294967295))) ∧ Below w.heap.size w w' := by
  obtain ⟨bb, hbb⟩ : ∃ bb, ((s : Int) != 4294967295) = bb := ⟨_, rfl⟩
  have hd : (!decide (s = 4294967295)) = bb := by
    rw [← hbb]
    by_cases h : s = 4294967295
    · have : (s : Int) = 4294967295 := by omega
      rw [decide_eq_true h, this]; rfl
    · rw [decide_eq_false h]
      symm
      rw [Bool.not_false, bne_iff_ne]
      omega
  have HD := Lib.hid hd
  clear hd
  go_enter Tryz.func54, Tryz.ntmps54
  go_wp2
  go_ret
  exact ⟨ret_bool HD.out.symm, (Below.refl _ _).alloc (Nat.le_refl _) _⟩

set_option maxRecDepth 100000 in
set_option maxHeartbeats 2000000 in
theorem indexf_any (v : Value) (xs : List PIn) (w : World) (hv : SlAt rpIn w v xs) :
    Calls Tryz.prog 77 #[v, .func (.func 54) #[] #[]] w fun e w' => (∃ n : Int, e = .returned (.int .i64 n) ∧ decide (0 ≤ n) = !xs.all lastSeq) ∧ Below w.heap.size w w' := by
  obtain ⟨a, c, rfl, hl1, hl2⟩ := hv.shape
  rw [maxLen_eq] at hl2
  obtain ⟨n, hn⟩ : ∃ n, n = xs.length := ⟨_, rfl⟩
  rw [← hn] at hv hl1 ⊢
  have HN := Lib.hid hn
  clear hn
  go_enter Tryz.func77, Tryz.ntmps77
  go_wp2_with fail
  go_loopw [5, 8] (fun _ i wr => ∃ k : Nat, k ≤ n ∧ i = .int .i64 k ∧ Below w.heap.size w wr ∧ ∀ j x, j < k → xs[j]? = some x → lastSeq x = true) (fun _ i _ => n - (intOf i).toNat)
  case atStart => exact ⟨0, Nat.zero_le _, rfl, Below.refl _ _, fun j x hj => absurd hj (Nat.not_lt_zero _)⟩
  case round =>
    obtain ⟨k, hk, rfl, hbw, hsame⟩ := hrel
    have HS := Lib.hid hsame
    have HW := Lib.hid hbw
    by_cases hlt : k < n
    · obtain ⟨b, o, x, wv, rfl, hx, hseq, -, -, hwv, d0, d1, d2, d3⟩ := (hv.mono (below_cells hbw)).inp hlt
      obtain ⟨wa, wc, rfl, -, -⟩ := hwv.shape
      have HX := Lib.hid hx
      have HR := Lib.hid (ripe1_any x.id x.idx x.seq wa x.wit.length wc)
      cases hls : lastSeq x
      · have hdf : (!decide (x.seq = 4294967295)) = true := by rw [show decide (x.seq = 4294967295) = false from hls]; rfl
        rw [hdf] at HR
        have hall : xs.all lastSeq = false := by
          cases h : xs.all lastSeq
          · rfl
          · rw [List.all_eq_true] at h
            have := h x (List.mem_of_getElem? hx)
            rw [hls] at this
            cases this
        have HA := Lib.hid hall
        clear hx hseq hwv hbw hsame hv hdf hall hls
        go_wp2_with fail
        refine (HR.out _).mono ?_
        rintro e w1 ⟨rfl, hb1⟩
        have HB1 := Lib.hid (HW.out.trans (hb1.mono HW.out.size))
        clear hb1
        go_wp2
        go_ret
        exact ⟨⟨_, rfl, by rw [HA.out]; simp⟩, HB1.out⟩
      · have hdf : (!decide (x.seq = 4294967295)) = false := by rw [show decide (x.seq = 4294967295) = true from hls]; rfl
        rw [hdf] at HR
        have hnext : ∀ j y, j < k + 1 → xs[j]? = some y → lastSeq y = true := fun j y hj hy => by
          rcases Nat.lt_or_ge j k with h | h
          · exact HS.out j y h hy
          · obtain rfl : j = k := by omega
            rw [hx] at hy
            obtain rfl : x = y := Option.some.inj hy
            exact hls
        have HN2 := Lib.hid hnext
        clear hx hseq hwv hbw hsame hv hdf hnext hls
        go_wp2_with fail
        refine (HR.out _).mono ?_
        rintro e w1 ⟨rfl, hb1⟩
        have HB1 := Lib.hid (HW.out.trans (hb1.mono HW.out.size))
        clear hb1
        go_wp2
        go_roundw
        case rel => exact ⟨k + 1, by omega, by go_num, HB1.out, HN2.out⟩
        case measure => simp [intOf]; omega
    · obtain rfl : k = n := by omega
      have hall : xs.all lastSeq = true := by
        rw [List.all_eq_true]
        intro x hx
        obtain ⟨j, hj, rfl⟩ := List.getElem_of_mem hx
        exact hsame j _ (by rw [HN.out]; exact hj) (List.getElem?_eq_getElem hj)
      have HA := Lib.hid hall
      clear hsame hall hbw hv
      go_wp2
      go_ret
      exact ⟨⟨_, rfl, by rw [HA.out]; rfl⟩, HW.out⟩

set_option maxHeartbeats 2000000 in
theorem containsf_any (v : Value) (xs : List PIn) (w : World) (hv : SlAt rpIn w v xs) :
    Calls Tryz.prog 53 #[v, .func (.func 54) #[] #[]] w fun e w' => e = .returned (.bool (!xs.all lastSeq)) ∧ Below w.heap.size w w' := by
  have HI := Lib.hid (indexf_any v xs w hv)
  obtain ⟨a, c, rfl, hl1, hl2⟩ := hv.shape
  clear hv hl1 hl2
  generalize xs.length = n at *
  go_enter Tryz.func53, Tryz.ntmps53
  go_wp2_with fail
  refine HI.out.mono ?_
  rintro e w1 ⟨⟨m, rfl, hm⟩, hb1⟩
  have HM := Lib.hid hm
  clear hm
  go_wp2
  go_ret
  exact ⟨ret_bool HM.out, hb1⟩

end Go.Proofs.YtelindgnkpfkiaaGreatDoor
end

section
/-
  Locks, the fourteenth part: may an input be in a block? Conditions: none beyond each theorem's own.
-/
namespace Go.Proofs.YtelindgnkpfkiaaGreatDoor
open Go.RowKit Go.BigFrame
set_option linter.unusedVariables false

def ripeOf (t : PTx) (i c h : Int) : Bool := isIn t i && okHeight c && okHeight h && decide (c + waitsOf t i.toNat ≤ h) && (decide ((t.lock : Int) < h) || t.ins.all lastSeq)
def RipeIs (t : PTx) (i c h : Int) (w : World) (e : Ending) (w' : World) : Prop := e = .returned (.bool (ripeOf t i c h)) ∧ Below w.heap.size w w'
theorem ripe_is {t : PTx} {i c h : Int} {b : Bool} {w w' : World} (hr : ripeOf t i c h = b) (hb : Below w.heap.size w w') : RipeIs t i c h w (.returned (.bool b)) w' := by unfold RipeIs; rw [hr]; exact ⟨rfl, hb⟩
theorem tx_shape {w : World} {v : Value} {t : PTx} (h : TxAt w v t) : ∃ (a : Option Addr) (c : Nat) (au : Option Addr) (nu cu : Nat), v = .agg #[.int .u32 t.ver, .slice a t.ins.length c, .slice au nu cu, .int .u32 t.lock] ∧ t.ins.length ≤ 9223372036854775807 ∧ t.lock < 4294967296 ∧ SlAt rpIn w (.slice a t.ins.length c) t.ins := by
  obtain ⟨a, u, rfl, h1, h2, h3, h4⟩ := h
  obtain ⟨au, cu, rfl, -, -⟩ := h2.shape
  obtain ⟨a', c, rfl, hl1, hl2⟩ := h1.shape
  exact ⟨a', c, au, _, cu, rfl, by rw [maxLen_eq] at hl2; omega, h4, h1⟩

set_option maxRecDepth 100000 in
set_option maxHeartbeats 4000000 in
theorem ripe_any (v : Value) (t : PTx) (i c h : Int) (w : World) (hv : TxAt w v t) (hh1 : h ≤ 9223372036854775807) :
    Calls Tryz.prog 23 #[v, .int .i64 i, .int .i64 c, .int .i64 h] w (RipeIs t i c h w) := by
  obtain ⟨va, vc, au, nu, cu, rfl, hnm, hlk, hins⟩ := tx_shape hv
  have his := fun w' hw' => is_any _ t i w' (hv.mono hw')
  have HHC := Lib.hid (height_any c)
  have HHH := Lib.hid (height_any h)
  have HV := Lib.hid hv
  have HINS := Lib.hid hins
  clear hv hins
  cases hin : isIn t i
  case false =>
    rw [hin] at his
    have HIS := Lib.hid his
    have HR := Lib.hid (show ripeOf t i c h = false by unfold ripeOf; rw [hin]; rfl)
    clear his hin HHC HHH
    go_enter Tryz.func23, Tryz.ntmps23
    go_wp2_with fail
    refine (HIS.out _ (fun p v hp => cell_over hp _)).mono ?_
    rintro e w1 ⟨rfl, hb1⟩
    go_wp2
    go_ret
    exact ripe_is HR.out (((Below.refl _ _).alloc (Nat.le_refl _) _).trans (hb1.mono (by simp)))
  rw [hin] at his
  have HIS := Lib.hid his
  cases hoc : okHeight c
  case false =>
    rw [hoc] at HHC
    have HR := Lib.hid (show ripeOf t i c h = false by unfold ripeOf; rw [hin, hoc]; rfl)
    clear his hin HHH hoc
    go_enter Tryz.func23, Tryz.ntmps23
    go_wp2_with fail
    refine (HIS.out _ (fun p v hp => cell_over hp _)).mono ?_
    rintro e w1 ⟨rfl, hb1⟩
    go_wp2_with fail
    refine (HHC.out _).mono ?_
    rintro e w2 ⟨rfl, rfl⟩
    go_wp2
    go_ret
    exact ripe_is HR.out (((Below.refl _ _).alloc (Nat.le_refl _) _).trans (hb1.mono (by simp)))
  cases hoh : okHeight h
  case false =>
    rw [hoc] at HHC
    rw [hoh] at HHH
    have HR := Lib.hid (show ripeOf t i c h = false by unfold ripeOf; rw [hin, hoc, hoh]; rfl)
    clear his hin hoc hoh
    go_enter Tryz.func23, Tryz.ntmps23
    go_wp2_with fail
    refine (HIS.out _ (fun p v hp => cell_over hp _)).mono ?_
    rintro e w1 ⟨rfl, hb1⟩
    go_wp2_with fail
    refine (HHC.out _).mono ?_
    rintro e w2 ⟨rfl, rfl⟩
    go_wp2_with fail
    refine (HHH.out _).mono ?_
    rintro e w2 ⟨rfl, rfl⟩
    go_wp2
    go_ret
    exact ripe_is HR.out (((Below.refl _ _).alloc (Nat.le_refl _) _).trans (hb1.mono (by simp)))
  obtain ⟨k, rfl, hk⟩ := isIn_nat hin
  have hwt := fun w' hw' => waits_any _ t k w' (HV.out.mono hw') hk
  have hwl := waitsOf_lt t k
  have hcb : 0 ≤ c ∧ c ≤ 1000000 := by unfold okHeight at hoc; simpa using hoc
  have hhb : 0 ≤ h ∧ h ≤ 1000000 := by unfold okHeight at hoh; simpa using hoh
  have hrip : ripeOf t k c h = (decide (c + waitsOf t k ≤ h) && (decide ((t.lock : Int) < h) || t.ins.all lastSeq)) := by unfold ripeOf; rw [hin, hoc, hoh]; simp
  rw [hoc] at HHC
  rw [hoh] at HHH
  have HRIP := Lib.hid hrip
  have HWT := Lib.hid hwt
  have HCF := Lib.hid (fun w' hw' => containsf_any _ t.ins w' (HINS.out.mono hw'))
  clear his hin hoc hoh hwt hrip hk
  generalize waitsOf t k = wf at *
  generalize t.lock = lk at *
  generalize t.ver = ver at *
  generalize t.ins.length = n at *
  go_enter Tryz.func23, Tryz.ntmps23
  go_wp2_with fail
  refine (HIS.out _ (fun p v hp => cell_over hp _)).mono ?_
  rintro e w1 ⟨rfl, hb1⟩
  have e1 : w1.heap[w.heap.size]? = _ := (hb1.block w.heap.size (by simp)).trans (heap_alloc_new w _)
  have hw1 : Below w.heap.size w w1 := ((Below.refl _ _).alloc (Nat.le_refl _) _).trans (hb1.mono (by simp))
  have hsz1 : w.heap.size < w1.heap.size := (Array.getElem?_eq_some_iff.1 e1).1
  have HMM := Lib.hid (below_cells hw1)
  have HW1 := Lib.hid hw1
  have HE1 := Lib.hid e1
  clear hb1
  go_wp2_with fail
  refine (HHC.out _).mono ?_
  rintro e w2 ⟨rfl, rfl⟩
  go_wp2_with fail
  refine (HHH.out _).mono ?_
  rintro e w2 ⟨rfl, rfl⟩
  have q0 : w1.cell? ⟨w.heap.size, 0, none⟩ = _ := cell_at e1
  have q1 : w1.cell? ⟨w.heap.size, 1, none⟩ = _ := cell_at e1
  have q2 : w1.cell? ⟨w.heap.size, 2, none⟩ = _ := cell_at e1
  have q3 : w1.cell? ⟨w.heap.size, 3, none⟩ = _ := cell_at e1
  clear e1 hw1
  go_wp2_with fail
  refine (HWT.out _ HMM.out).mono ?_
  rintro e w2 ⟨rfl, hb2⟩
  have hw2 := HW1.out.trans (hb2.mono (Nat.le_of_lt hsz1))
  have r1 := below_cells hb2 _ _ q1
  have r3 := below_cells hb2 _ _ q3
  have HM2 := Lib.hid (below_cells hw2)
  have HW2 := Lib.hid hw2
  have hsz2 := hb2.size
  clear hw2 hb2 q0 q1 q2 q3
  by_cases hlt : h < c + wf
  · have HR := Lib.hid (show ripeOf t k c h = false by rw [HRIP.out, decide_eq_false (by omega)]; rfl)
    clear r1 r3
    go_wp2
    go_ret
    exact ripe_is HR.out HW2.out
  by_cases hl : (lk : Int) < h
  · have HR := Lib.hid (show ripeOf t k c h = true by rw [HRIP.out, decide_eq_true (by omega), decide_eq_true hl]; rfl)
    go_wp2
    go_ret
    exact ripe_is HR.out HW2.out
  have HR := Lib.hid (show ripeOf t k c h = t.ins.all lastSeq by rw [HRIP.out, decide_eq_true (by omega), decide_eq_false hl]; rfl)
  go_wp2_with fail
  refine (HCF.out _ HM2.out).mono ?_
  rintro e w3 ⟨rfl, hb3⟩
  have HW3 := Lib.hid (HW2.out.trans (hb3.mono (Nat.le_trans (Nat.le_of_lt hsz1) hsz2)))
  clear r1 r3 hb3
  go_wp2
  go_ret
  exact ripe_is (by rw [HR.out]; simp; intro hx; exact absurd hx (by omega)) HW3.out

end Go.Proofs.YtelindgnkpfkiaaGreatDoor
end

section
/-
  A region that draws its order: the first n operations make memory of their own, in any order, and one of them stores into a block that another made. Conditions: each theorem's own.
-/
namespace Go.Proofs.YtelindgnkpfkiaaGreatDoor
open Go.RowKit Go.BigFrame
set_option linter.unusedVariables false
set_option linter.unusedSimpArgs false

/-- What holds of an operation's value and of the blocks from lo to hi; it stays while these blocks do. -/
structure SFact where
  p : Value → List Value → Nat → Nat → World → Prop
  mono : ∀ {v : Value} {d : List Value} {lo hi : Nat} {w w' : World}, (∀ b, lo ≤ b → b < hi → w'.heap[b]? = w.heap[b]?) → p v d lo hi w → p v d lo hi w'
def SFact.val (f : List Value → Value) : SFact := ⟨fun v d _ _ _ => v = f d, fun _ h => h⟩
def SFact.box (f : List Value → Obj) : SFact := ⟨fun v d lo hi w => ∃ b, lo ≤ b ∧ b < hi ∧ v = .pointer (some ⟨b, 0, none⟩) ∧ w.heap[b]? = some (f d), fun hk ⟨b, h1, h2, h3, h4⟩ => ⟨b, h1, h2, h3, (hk b h1 h2).trans h4⟩⟩
/-- The block that is made and stored into behind it. -/
def SFact.made (P : Prop) (x : Obj) : SFact := ⟨fun v _ lo hi w => ∃ b, lo ≤ b ∧ v = .pointer (some ⟨b, 0, none⟩) ∧ (¬ P → b < hi ∧ w.heap[b]? = some x), fun hk ⟨b, h1, h2, h3⟩ => ⟨b, h1, h2, fun hp => ⟨(h3 hp).1, (hk b h1 (h3 hp).1).trans (h3 hp).2⟩⟩⟩
/-- The store's own fact: the first value it waits for is the block's, the second is what it holds. -/
def SFact.stored (t : TypeId) : SFact := ⟨fun _ d lo hi w => ∃ b cs, lo ≤ b ∧ b < hi ∧ d.getD 0 undef = .pointer (some ⟨b, 0, none⟩) ∧ d.getD 1 undef = .agg cs ∧ w.heap[b]? = some (.cells cs t (0, 0)), fun hk ⟨b, cs, h1, h2, h3, h4, h5⟩ => ⟨b, cs, h1, h2, h3, h4, (hk b h1 h2).trans h5⟩⟩
def SFact.any : SFact := ⟨fun _ _ _ _ _ => True, fun _ _ => trivial⟩

structure MadeS (R : Prop → Nat → SFact) (s : Nat) (l : List Oper) (n : Nat) (w0 : World) (L : Nat → Prop) (xs : List Value) (lo hi : Nat → Nat) (w : World) : Prop where
  len : xs.length = n
  closed : ∀ j, L j → ∀ d, (deps l j).contains d = true → L d
  lt : ∀ j, L j → j < n
  bel : Below w0.heap.size w0 w
  rel : ∀ j, L j → (R (L s) j).p (xs.getD j undef) ((deps l j).map fun d => xs.getD d undef) (lo j) (hi j) w
  lohi : ∀ j, L j → w0.heap.size ≤ lo j ∧ lo j ≤ hi j ∧ hi j ≤ w.heap.size
  apart : ∀ i j, L i → L j → i ≠ j → hi i ≤ lo j ∨ hi j ≤ lo i

section
variable {P : Program} {R : Prop → Nat → SFact} {s : Nat} {l : List Oper} {n : Nat} {w0 w : World} {L : Nat → Prop} {xs : List Value} {lo hi : Nat → Nat}

theorem set_map {i : Nat} {v : Value} (hlen : xs.length = n) (hin : i < n) (hni : ¬ L i) (hcl : ∀ j, L j → ∀ d, (deps l j).contains d = true → L d) (hpre : ∀ d, (deps l i).contains d = true → L d) :
    (∀ j, L j → (xs.set i v).getD j undef = xs.getD j undef) ∧ (xs.set i v).getD i undef = v ∧ ∀ j, (j = i ∨ L j) → ((deps l j).map fun d => (xs.set i v).getD d undef) = (deps l j).map fun d => xs.getD d undef := by
  have hget : ∀ j, L j → (xs.set i v).getD j undef = xs.getD j undef := by
    intro j hj
    have hne : i ≠ j := fun e => hni (e ▸ hj)
    simp [List.getD, List.getElem?_set_ne hne]
  refine ⟨hget, ?_, ?_⟩
  · have : i < xs.length := by rw [hlen]; exact hin
    simp [List.getD, this]
  · intro j hj
    refine List.map_congr_left fun d hd => hget d ?_
    have hc : (deps l j).contains d = true := by simpa using hd
    rcases hj with rfl | hj
    · exact hpre d hc
    · exact hcl j hj d hc

/-- A value that is told by those it waits for: the kernel reckons which these are. -/
theorem MadeS.val (h : MadeS R s l n w0 L xs lo hi w) {j : Nat} (hj : L j) (f : List Value → Value) (hR : R (L s) j = SFact.val f) {x v : Value} (hx : xs.getD j undef = x) (hv : f ((deps l j).map fun d => xs.getD d undef) = v) : x = v := by
  have h1 := h.rel j hj
  rw [hR] at h1
  exact hx.symm.trans (h1.trans hv)
theorem MadeS.st (h : MadeS R s l n w0 L xs lo hi w) {j : Nat} (hj : L j) {t : TypeId} {x y : Value} (hR : R (L s) j = SFact.stored t) (hx : ((deps l j).map fun d => xs.getD d undef).getD 0 undef = x) (hy : ((deps l j).map fun d => xs.getD d undef).getD 1 undef = y) :
    ∃ b cs, lo j ≤ b ∧ b < hi j ∧ x = .pointer (some ⟨b, 0, none⟩) ∧ y = .agg cs ∧ w.heap[b]? = some (.cells cs t (0, 0)) := by
  have h1 := h.rel j hj
  rw [hR] at h1
  obtain ⟨b, cs, h2, h3, h4, h5, h6⟩ := h1
  exact ⟨b, cs, h2, h3, hx.symm.trans h4, hy.symm.trans h5, h6⟩
theorem MadeS.step (h : MadeS R s l n w0 L xs lo hi w) {i : Nat} (his : i ≠ s) (hin : i < n) (hni : ¬ L i) (hpre : ∀ d, (deps l i).contains d = true → L d) {v : Value} {w' : World}
    (hbel : Below w.heap.size w w') (hr : (R (L s) i).p v ((deps l i).map fun d => xs.getD d undef) w.heap.size w'.heap.size w') :
    MadeS R s l n w0 (fun j => j = i ∨ L j) (xs.set i v) (fun j => if j = i then w.heap.size else lo j) (fun j => if j = i then w'.heap.size else hi j) w' := by
  obtain ⟨hget, hself, hmap⟩ := set_map (v := v) h.len hin hni h.closed hpre
  have hsz := hbel.size
  have he : (s = i ∨ L s) = L s := propext ⟨fun h => h.elim (fun e => absurd e.symm his) id, .inr⟩
  refine ⟨by rw [List.length_set]; exact h.len, ?_, ?_, h.bel.trans (hbel.mono h.bel.size), ?_, ?_, ?_⟩
  · rintro j (rfl | hj) d hd
    · exact .inr (hpre d hd)
    · exact .inr (h.closed j hj d hd)
  · rintro j (rfl | hj)
    · exact hin
    · exact h.lt j hj
  · intro j hj
    rw [he]
    rcases hj with rfl | hj
    · rw [hself, hmap j (.inl rfl), if_pos rfl, if_pos rfl]
      exact hr
    · have hne : j ≠ i := fun e => hni (e ▸ hj)
      rw [hget j hj, hmap j (.inr hj), if_neg hne, if_neg hne]
      have h3 := h.lohi j hj
      exact (R (L s) j).mono (fun b _ h2 => hbel.block b (by omega)) (h.rel j hj)
  · rintro j (rfl | hj)
    · rw [if_pos rfl, if_pos rfl]
      exact ⟨h.bel.size, hsz, Nat.le_refl _⟩
    · have hne : j ≠ i := fun e => hni (e ▸ hj)
      rw [if_neg hne, if_neg hne]
      have := h.lohi j hj
      omega
  · rintro p q (rfl | hp) (rfl | hq) hpq
    · exact absurd rfl hpq
    · have hne : q ≠ p := fun e => hpq e.symm
      rw [if_pos rfl, if_pos rfl, if_neg hne, if_neg hne]
      exact .inr (h.lohi q hq).2.2
    · rw [if_pos rfl, if_pos rfl, if_neg hpq, if_neg hpq]
      exact .inl (h.lohi p hp).2.2
    · have h1 : p ≠ i := fun e => hni (e ▸ hp)
      have h2 : q ≠ i := fun e => hni (e ▸ hq)
      rw [if_neg h1, if_neg h1, if_neg h2, if_neg h2]
      exact h.apart p q hp hq hpq

/-- The store: the block that operation a made is from now on that of the store itself. -/
theorem MadeS.store (h : MadeS R s l n w0 L xs lo hi w) {a : Nat} (ha : L a) (hin : s < n) (hni : ¬ L s) (hpre : ∀ d, (deps l s).contains d = true → L d) {v : Value} {w' : World}
    (hR : ∀ j, j ≠ a → ∀ v d lo hi w, (R False j).p v d lo hi w → (R True j).p v d lo hi w)
    (hbel : Below w0.heap.size w0 w') (hsz : w'.heap.size = w.heap.size) (hout : ∀ b, ¬ (lo a ≤ b ∧ b < hi a) → w'.heap[b]? = w.heap[b]?)
    (hs : (R True s).p v ((deps l s).map fun d => xs.getD d undef) (lo a) (hi a) w') (hra : (R True a).p (xs.getD a undef) ((deps l a).map fun d => xs.getD d undef) (lo a) (lo a) w') :
    MadeS R s l n w0 (fun j => j = s ∨ L j) (xs.set s v) (fun j => if j = s then lo a else lo j) (fun j => if j = s then hi a else if j = a then lo a else hi j) w' := by
  obtain ⟨hget, hself, hmap⟩ := set_map (v := v) h.len hin hni h.closed hpre
  have he : (s = s ∨ L s) = True := propext ⟨fun _ => trivial, fun _ => .inl rfl⟩
  have hf : (L s) = False := propext ⟨hni, False.elim⟩
  have hla := h.lohi a ha
  refine ⟨by rw [List.length_set]; exact h.len, ?_, ?_, hbel, ?_, ?_, ?_⟩
  · rintro j (rfl | hj) d hd
    · exact .inr (hpre d hd)
    · exact .inr (h.closed j hj d hd)
  · rintro j (rfl | hj)
    · exact hin
    · exact h.lt j hj
  · intro j hj
    rw [he]
    rcases hj with rfl | hj
    · rw [hself, hmap j (.inl rfl), if_pos rfl, if_pos rfl]
      exact hs
    · have hne : j ≠ s := fun e => hni (e ▸ hj)
      rw [hget j hj, hmap j (.inr hj), if_neg hne, if_neg hne]
      by_cases hja : j = a
      · subst hja; rw [if_pos rfl]; exact hra
      · rw [if_neg hja]
        have h3 := h.rel j hj
        rw [hf] at h3
        have h4 := h.apart j a hj ha hja
        exact (R True j).mono (fun b h1 h2 => hout b (by omega)) (hR j hja _ _ _ _ _ h3)
  · rintro j (rfl | hj)
    · rw [if_pos rfl, if_pos rfl]
      omega
    · have hne : j ≠ s := fun e => hni (e ▸ hj)
      rw [if_neg hne, if_neg hne]
      have := h.lohi j hj
      split
      · rename_i e; subst e; omega
      · omega
  · have other : ∀ q, L q → q ≠ s → (hi a ≤ lo q ∨ (if q = a then lo a else hi q) ≤ lo a) := by
      intro q hq hqs
      by_cases e : q = a
      · rw [if_pos e]; omega
      · rw [if_neg e]
        have := h.apart q a hq ha e
        omega
    rintro p q (rfl | hp) (rfl | hq) hpq
    · exact absurd rfl hpq
    · have hne : q ≠ p := fun e => hpq e.symm
      rw [if_pos rfl, if_pos rfl, if_neg hne, if_neg hne]
      exact other q hq hne
    · rw [if_pos rfl, if_pos rfl, if_neg hpq, if_neg hpq]
      exact (other p hp hpq).symm
    · have h1 : p ≠ s := fun e => hni (e ▸ hp)
      have h2 : q ≠ s := fun e => hni (e ▸ hq)
      rw [if_neg h1, if_neg h1, if_neg h2, if_neg h2]
      have h3 := h.apart p q hp hq hpq
      have h4 := h.lohi p hp
      have h5 := h.lohi q hq
      split <;> split <;> (try subst_vars) <;> omega

theorem MadeS.start {a0 : Act} (hl : n ≤ l.length) (w : World) : MadeS R s l n w (fun _ => False) ((ownVals a0 l).take n) (fun _ => 0) (fun _ => 0) w.drew :=
  ⟨by simp [ownVals]; omega, fun _ h => h.elim, fun _ h => h.elim, ⟨rfl, rfl, rfl, Nat.le_refl _, fun _ _ => rfl⟩, fun _ h => h.elim, fun _ h => h.elim, fun _ _ h => h.elim⟩

/-- What is asked behind one operation. -/
def PostS (R : Prop → Nat → SFact) (s a : Nat) (l : List Oper) (w0 : World) (L : Nat → Prop) (xs : List Value) (lo hi : Nat → Nat) (w : World) (i : Nat) (v : Value) (w' : World) : Prop :=
  (i ≠ s ∧ Below w.heap.size w w' ∧ (R (L s) i).p v ((deps l i).map fun d => xs.getD d undef) w.heap.size w'.heap.size w') ∨
  (i = s ∧ L a ∧ Below w0.heap.size w0 w' ∧ w'.heap.size = w.heap.size ∧ (∀ b, ¬ (lo a ≤ b ∧ b < hi a) → w'.heap[b]? = w.heap[b]?) ∧ (R True s).p v ((deps l s).map fun d => xs.getD d undef) (lo a) (hi a) w' ∧ (R True a).p (xs.getD a undef) ((deps l a).map fun d => xs.getD d undef) (lo a) (lo a) w')
def StepOkS (P : Program) (R : Prop → Nat → SFact) (s a : Nat) (a0 : Act) (l : List Oper) (n : Nat) (w0 : World) (i : Nat) (o : Oper) : Prop :=
  ∀ (L : Nat → Prop) (xs : List Value) (lo hi : Nat → Nat) (w : World), MadeS R s l n w0 L xs lo hi w → ¬ L i → (∀ d, (deps l i).contains d = true → L d) →
    o.wp P (putAll a0 l xs) w (fun a' w' => ∃ v, a' = (putAll a0 l xs).put o.dst v ∧ PostS R s a l w0 L xs lo hi w i v w') (fun _ _ _ => False)

theorem wp_region_stored (R : Prop → Nat → SFact) (n s a : Nat) {id : Nat} {Q : Exit → Act → World → Prop} {a0 : Act} (hm : P.follows .mixedOrders = true) (hb : backB .any l.toArray = true)
    (hg : ((l.take n).all fun o => o.guard.isNone) = true) (hd : dstB l = true) (hn : n ≤ l.length) (ht : tailB l n = true) (hn0 : n ≠ 0)
    (hR : ∀ j, j ≠ a → ∀ v d lo hi w, (R False j).p v d lo hi w → (R True j).p v d lo hi w)
    (hstep : ∀ i o, i < n → l[i]? = some o → StepOkS P R s a a0 l n w0 i o)
    (hend : ∀ (xs : List Value) (lo hi : Nat → Nat) (w : World), MadeS R s l n w0 (fun j => j < n) xs lo hi w → wpList P l.toArray Q (l.drop n) (putAll a0 l xs) w) :
    (Code.region id l.toArray true).wp P Q a0 w0 := by
  refine wp_region_inv2 (fun L a w => (∃ xs lo hi, a = putAll a0 l xs ∧ MadeS R s l n w0 L xs lo hi w ∧ ¬ (∀ j, j < n → L j)) ∨ (∃ t, n ≤ t ∧ (L = fun j => j < t) ∧ wpList P l.toArray Q (l.drop t) a w)) hm hb ?_ ?_ ?_
  · have h0 : MadeS R s l n w0 (fun _ => False) ((ownVals a0 l).take n) (fun _ => 0) (fun _ => 0) w0.drew := MadeS.start hn w0
    exact .inl ⟨_, _, _, (putAll_own l a0 n).symm, h0, fun h => h 0 (by omega)⟩
  · rintro L i a1 w hil hni hpre hcase
    obtain ⟨o, ho⟩ : ∃ o, l[i]? = some o := ⟨_, List.getElem?_eq_getElem hil⟩
    have hoa : l.toArray[i]? = some o := by simpa using ho
    have hahead : n ≤ i → (∀ j, L j → ∀ d, (deps l j).contains d = true → L d) → ∀ j, j < i → L j := by
      intro hni' hcl
      have h1 := List.all_eq_true.1 ht (i - n) (List.mem_range.2 (by omega))
      rw [show n + (i - n) = i by omega] at h1
      exact ahead_all h1 hcl hpre
    rcases hcase with ⟨xs, lo, hi, rfl, hmd, hno⟩ | ⟨t, hnt, rfl, hwp⟩
    · by_cases hin : i < n
      · have hgo : o.guard = none := by
          have h1 : o ∈ l.take n := by
            rw [List.mem_iff_getElem?]
            exact ⟨i, by rw [List.getElem?_take_of_lt hin]; exact ho⟩
          have := List.all_eq_true.1 hg o h1
          simpa using this
        unfold wpOp
        rw [hoa]
        simp only [Region.wanted, hgo, if_true]
        refine .inl (wp_weaken ?_ (fun _ _ _ h => h.elim) (fun ⟨_, _, h⟩ => h.elim) (hstep i o hin ho L xs lo hi w hmd hni hpre))
        rintro a' w' ⟨v, rfl, hpost⟩
        obtain ⟨lo', hi', hmd'⟩ : ∃ lo' hi', MadeS R s l n w0 (fun j => j = i ∨ L j) (xs.set i v) lo' hi' w' := by
          rcases hpost with ⟨h1, h2, h3⟩ | ⟨h1, h2, h3, h4, h5, h6, h7⟩
          · exact ⟨_, _, hmd.step h1 hin hni hpre h2 h3⟩
          · subst h1
            exact ⟨_, _, hmd.store h2 hin hni hpre hR h3 h4 h5 h6 h7⟩
        rw [putAll_put l xs a0 i o v hd ho (by rw [hmd.len]; exact hin)]
        by_cases hall : ∀ j, j < n → (j = i ∨ L j)
        · refine .inr ⟨n, Nat.le_refl _, ?_, ?_⟩
          · funext j
            exact propext ⟨hmd'.lt j, hall j⟩
          · have he : (fun j => j = i ∨ L j) = fun j => j < n := by
              funext j
              exact propext ⟨hmd'.lt j, hall j⟩
            rw [he] at hmd'
            exact hend _ _ _ _ hmd'
        · exact .inl ⟨_, _, _, rfl, hmd', hall⟩
      · exact absurd (fun j hj => hahead (by omega) hmd.closed j (by omega)) hno
    · have hti : i = t := by
        have h1 : t ≤ i := Nat.le_of_not_lt hni
        rcases Nat.lt_or_ge t i with h2 | h2
        · have h3 := hahead (by omega) (fun j hj d hdj => by
            obtain ⟨q, hq⟩ : ∃ q, l[j]? = some q := ⟨_, List.getElem?_eq_getElem (by omega)⟩
            obtain ⟨e, e1, e2, rfl⟩ := deps_binds hq hdj
            have := back_spec hb (by simpa using hq) e e1 e2
            omega) t h2
          omega
        · omega
      subst hti
      have hdr : l.drop i = o :: l.drop (i + 1) := by
        rw [List.drop_eq_getElem_cons hil]
        congr 1
        obtain ⟨_, h2⟩ := List.getElem?_eq_some_iff.1 ho
        exact h2
      rw [hdr] at hwp
      have hset : (fun j => j = i ∨ j < i) = fun j => j < i + 1 := by
        funext j
        apply propext
        omega
      unfold wpOp
      rw [hoa]
      dsimp only
      unfold wpList at hwp
      split
      · rename_i hw
        rw [if_pos hw] at hwp
        rcases hwp with hwp | hwp
        · refine .inl (wp_weaken (fun a' w' hK => ?_) (fun _ _ _ h => h) (fun h => h) hwp)
          exact .inr ⟨i + 1, by omega, hset, hK⟩
        · exact .inr hwp
      · rename_i hw
        rw [if_neg hw] at hwp
        exact .inr ⟨i + 1, by omega, hset, hwp⟩
  · rintro L a w hall hcase
    rcases hcase with ⟨xs, lo, hi, rfl, hmd, hno⟩ | ⟨t, hnt, rfl, hwp⟩
    · exact absurd (fun j hj => hall j (by omega)) hno
    · have h1 : l.drop t = [] := by
        rw [List.drop_eq_nil_iff]
        rcases Nat.lt_or_ge t l.length with h2 | h2
        · have := hall t h2
          omega
        · exact h2
      rw [h1] at hwp
      exact hwp

theorem sstep_run {o : Oper} {a : Act} {w w' : World} {i k : Nat} (his : i ≠ s) (v : Value) (hrun : (execOp a.eval o).run P w = .ok (.value v) w') (hbel : Below w.heap.size w w')
    (hr : (R (L s) i).p v ((deps l i).map fun d => xs.getD d undef) w.heap.size w'.heap.size w') : o.wp P a w (fun a' w' => ∃ v, a' = a.put o.dst v ∧ PostS R s k l w0 L xs lo hi w i v w') (fun _ _ _ => False) :=
  opv_run hrun ⟨v, rfl, .inl ⟨his, hbel, hr⟩⟩
theorem sstep_pure {o : Oper} {a : Act} {w : World} {i k : Nat} (his : i ≠ s) (v : Value) (hrun : (execOp a.eval o).run P w = .ok (.value v) w)
    (hr : (R (L s) i).p v ((deps l i).map fun d => xs.getD d undef) w.heap.size w.heap.size w) : o.wp P a w (fun a' w' => ∃ v, a' = a.put o.dst v ∧ PostS R s k l w0 L xs lo hi w i v w') (fun _ _ _ => False) :=
  sstep_run his v hrun (Below.refl _ _) hr
theorem sstep_new {o : Oper} {a : Act} {w : World} {i k : Nat} (his : i ≠ s) (v : Value) (x : Obj) (hrun : (execOp a.eval o).run P w = .ok (.value v) (w.alloc x))
    (hr : (R (L s) i).p v ((deps l i).map fun d => xs.getD d undef) w.heap.size (w.alloc x).heap.size (w.alloc x)) : o.wp P a w (fun a' w' => ∃ v, a' = a.put o.dst v ∧ PostS R s k l w0 L xs lo hi w i v w') (fun _ _ _ => False) :=
  sstep_run his v hrun ((Below.refl _ _).alloc (Nat.le_refl _) _) hr
theorem sstep_call {o : Oper} {a : Act} {w : World} {i k : Nat} (his : i ≠ s) {f : FuncId} {args : Array Value} {E : Ending → World → Prop} (hc : Calls P f args w E) (hrun : (execOp a.eval o).run P w = .ok (.enter f args) w)
    (hK : ∀ e w', E e w' → ∃ v, e = .returned v ∧ Below w.heap.size w w' ∧ (R (L s) i).p v ((deps l i).map fun d => xs.getD d undef) w.heap.size w'.heap.size w') : o.wp P a w (fun a' w' => ∃ v, a' = a.put o.dst v ∧ PostS R s k l w0 L xs lo hi w i v w') (fun _ _ _ => False) :=
  op_call hrun hc fun e w' hE => let ⟨v, he, hb, hp⟩ := hK e w' hE; ⟨v, he, v, rfl, .inl ⟨his, hb, hp⟩⟩
/-- The store: of a whole row into a block that operation k made. -/
theorem sstep_row {o : Oper} {a : Act} {w : World} {k : Nat} (ty : TypeId) (x y : Operand) (t : TypeId) (old cells : Array Value) (g : Nat) (hR1 : R (L s) k = SFact.made (L s) (.cells old t (0, 0))) (hR2 : R True k = SFact.made True (.cells old t (0, 0))) (hR3 : R True s = SFact.stored t)
    (hmd : MadeS R s l n w0 L xs lo hi w) (hni : ¬ L s) (hk : L k) (ho : o.op = .store ty x y) (hxk : xs.getD k undef = .pointer (some ⟨g, 0, none⟩)) (hx : a.eval x = .pointer (some ⟨g, 0, none⟩)) (hy : a.eval y = .agg cells)
    (hi0 : (P.info? ty).map (·.size) = some cells.size) (hold : old.size = cells.size) (h1 : cells.all (·.oneCell') = true)
    (hd0 : ((deps l s).map fun d => xs.getD d undef).getD 0 undef = .pointer (some ⟨g, 0, none⟩)) (hd1 : ((deps l s).map fun d => xs.getD d undef).getD 1 undef = .agg cells) :
    o.wp P a w (fun a' w' => ∃ v, a' = a.put o.dst v ∧ PostS R s k l w0 L xs lo hi w s v w') (fun _ _ _ => False) := by
  have hlo := hmd.lohi k hk
  have hrel := hmd.rel k hk
  rw [hR1] at hrel
  obtain ⟨b, hb1, hb2, hb3⟩ := hrel
  obtain ⟨hb4, hb5⟩ := hb3 hni
  rw [hxk] at hb2
  obtain rfl : g = b := by injection hb2 with e; injection e with e; injection e
  refine Go.wp_store_row ty x y ho g cells hx hy t old hb5 hi0 hold h1 ⟨undef, rfl, .inr ⟨rfl, hk, ?_, by simp [World.setRow], fun b hb => setRow_other w g b _ (fun e => hb (e ▸ ⟨hb1, hb4⟩)), ?_, ?_⟩⟩
  · exact ⟨hmd.bel.os, hmd.bel.tape, hmd.bel.output, by have := hmd.bel.size; simpa [World.setRow] using this, fun b hb => (setRow_other w g b _ (by omega)).trans (hmd.bel.block b hb)⟩
  · rw [hR3]
    exact ⟨g, cells, hb1, hb4, hd0, hd1, setRow_heap w g _ cells _ _ hb5⟩
  · rw [hR2]
    exact ⟨g, hb1, hxk, fun h => absurd trivial h⟩
end
end Go.Proofs.YtelindgnkpfkiaaGreatDoor
end

section
/-
  A whole row loaded, in an arm of a drawn region and in a quiet one. Conditions: the row lies in memory.
-/
namespace Go.Proofs.YtelindgnkpfkiaaGreatDoor
open Go.RowKit Go.BigFrame
set_option linter.unusedVariables false
section
variable {P : Program} {ops : Array Oper} {C : World → Prop}
theorem exec_load_row {o : Oper} {a : Act} {w : World} (ty : TypeId) (x : Operand) (ho : o.op = .load ty x)
    (g : Nat) (hx : a.eval x = .pointer (some ⟨g, 0, none⟩)) (t : TypeId) (cs : Array Value) (fr : Nat × Nat) (d : TypeDesc) (hg : w.heap[g]? = some (.cells cs t fr))
    (hu : P.underlying ty = some d) (hd : (match d with | .struct _ | .array _ _ => true | _ => false) = true) (hi : (P.info? ty).map (·.size) = some cs.size) :
    (execOp a.eval o).run P w = .ok (.value (.agg cs)) w := by
  unfold execOp
  simp only [ho, hx, Instr.loadAt, Instr.sureAddr, Sem.run_bind, Sem.run_pure, Result.andThen_ok, run_loadVar_row w g t ty cs fr d hg hu hd hi]
theorem quiet_row {Q : Act → Prop} {a : Act} {o : Oper} {rest : List Oper} (hw : Region.wanted o (yielded ops a.tmps) = true) (ty : TypeId) (x : Operand) (ho : o.op = .load ty x)
    (g : Nat) (hx : a.eval x = .pointer (some ⟨g, 0, none⟩)) (t : TypeId) (cs : Array Value) (fr : Nat × Nat) (d : TypeDesc) (hg : ∀ w, C w → w.heap[g]? = some (.cells cs t fr))
    (hu : P.underlying ty = some d) (hd : (match d with | .struct _ | .array _ _ => true | _ => false) = true) (hi : (P.info? ty).map (·.size) = some cs.size)
    (h : wpQuiet P ops C Q rest (a.put o.dst (.agg cs))) : wpQuiet P ops C Q (o :: rest) a := by
  unfold wpQuiet
  rw [if_pos hw]
  refine ⟨.agg cs, fun w hC => ?_, h⟩
  unfold Oper.quietAt
  rw [exec_load_row ty x ho g hx t cs fr d (hg w hC) hu hd hi]
  exact ⟨rfl, rfl⟩
theorem wpList_pick_f {Q : Exit → Act → World → Prop} {a : Act} {w : World} {o : Oper} {rest : List Oper} {x y : Operand} (hgd : o.guard = none) (ho : o.op = .pick x y (.const (.bool false))) (hx : a.eval x = .bool false)
    (h : wpList P ops Q rest (a.put o.dst (.bool false)) w) : wpList P ops Q (o :: rest) a w := by
  refine wpList_plain hgd fun K hK => ?_
  unfold Oper.wp execOp
  simp only [ho, hx, asBool, Sem.run_bind, Sem.run_pure, Result.andThen_ok, Bool.false_eq_true, if_false]
  exact hK _ _ h
theorem wpList_pick_t {Q : Exit → Act → World → Prop} {a : Act} {w : World} {o : Oper} {rest : List Oper} {x z : Operand} (hgd : o.guard = none) (ho : o.op = .pick x (.const (.bool true)) z) (hx : a.eval x = .bool true)
    (h : wpList P ops Q rest (a.put o.dst (.bool true)) w) : wpList P ops Q (o :: rest) a w := by
  refine wpList_plain hgd fun K hK => ?_
  unfold Oper.wp execOp
  simp only [ho, hx, asBool, Sem.run_bind, Sem.run_pure, Result.andThen_ok, if_true]
  exact hK _ _ h
end
end Go.Proofs.YtelindgnkpfkiaaGreatDoor
end
