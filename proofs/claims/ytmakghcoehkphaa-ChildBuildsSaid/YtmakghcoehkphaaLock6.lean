/-
  Locks, the sixth part: the document's witnesses, and how both sign. Conditions: none beyond each theorem's own.
-/
import Derived.Test.YtmakghcoehkphaaLock5
namespace Go.Proofs.Ytmakghcoehkphaa
open Go.RowKit Go.BigFrame
set_option linter.unusedVariables false

def RSignedIs (ws : List ByteArray) (w : World) (e : Ending) (w' : World) : Prop :=
  e = .returned (.tuple #[.int .i64 (match signedOf ws with | some (n, _) => n | none => -1), .int .i64 ((signedOf ws).getD (0, 0)).2]) ∧ Below w.heap.size w w'
theorem rsigned_none {ws : List ByteArray} {w w' : World} (h : signedOf ws = none) (hb : Below w.heap.size w w') : RSignedIs ws w (.returned (.tuple #[.int .i64 (-1), .int .i64 0])) w' := by
  unfold RSignedIs; rw [h]; exact ⟨rfl, hb⟩
theorem rsigned_some {ws : List ByteArray} {w w' : World} {n t : Nat} {t' : Int} (h : signedOf ws = some (n, t)) (ht : t' = t) (hb : Below w.heap.size w w') : RSignedIs ws w (.returned (.tuple #[.int .i64 n, .int .i64 t'])) w' := by
  subst ht; unfold RSignedIs; rw [h]; exact ⟨rfl, hb⟩

/-- A slice of one string, in memory just made. -/
theorem sl_one {w w' : World} {s : ByteArray} (e : TypeId) (hs : s.size ≤ maxLen) : SlAt rpStr (w.alloc (.cells #[.string s] e)) (.slice (some ⟨w.heap.size, 0, none⟩) 1 1) [s] := by
  refine ⟨_, 1, rfl, Nat.le_refl _, by decide, fun i x hi => ?_⟩
  have h0 : i = 0 := by have := (List.getElem?_eq_some_iff.1 hi).1; simpa using this
  subst h0
  obtain rfl : s = x := by simpa using hi
  refine ⟨_, 0, [.string s], rfl, rfl, fun j u hj => ?_, rfl, hs⟩
  have hj0 : j = 0 := by have := (List.getElem?_eq_some_iff.1 hj).1; simpa using this
  subst hj0
  rw [cell_at (heap_alloc_new w _)]
  simpa using hj

/-- The witness of a branch and a tag. -/
def signW (n t : Nat) : ByteArray := ⟨(leB n 1 ++ leB t 2).toArray⟩
theorem signW_size (n t : Nat) : (signW n t).size = 3 := by simp [signW, ByteArray.size, leB_length]
def SignIs (n t : Nat) (w : World) (e : Ending) (w' : World) : Prop := ∃ v, e = .returned (.tuple #[v, .int .i64 0]) ∧ SlAt rpStr w' v [signW n t] ∧ Below w.heap.size w w'

set_option maxRecDepth 100000 in
set_option maxHeartbeats 1000000 in
theorem sign_no (n : Int) (t : Nat) (h : n < 0 ∨ 3 ≤ n) (w : World) : Calls Try.prog 22 #[.int .i64 n, .int .u16 t] w fun e w' => e = .returned (.tuple #[.slice none 0 0, .int .i64 2]) ∧ w = w' := by
  go_enter Try.func22, Try.ntmps22
  by_cases h0 : n < 0
  · clear h
    go_wp2
    go_ret2
    exact ⟨rfl, rfl⟩
  · have h3 : 3 ≤ n := by omega
    clear h
    go_wp2
    go_ret2
    exact ⟨rfl, rfl⟩

set_option maxRecDepth 100000 in
set_option maxHeartbeats 1000000 in
theorem sign_yes (n t : Nat) (h : n < 3) (ht : t < 65536) (w : World) : Calls Try.prog 22 #[.int .i64 n, .int .u16 t] w (SignIs n t w) := by
  go_enter Try.func22, Try.ntmps22
  go_wp2_with fail
  refine (put1_any n (by omega) _).mono ?_
  rintro e w1 ⟨rfl, hb1⟩
  have HB1 := Lib.hid hb1
  clear hb1
  go_wp2_with fail
  refine (put2_any t (by omega) _).mono ?_
  rintro e w2 ⟨rfl, hb2⟩
  have HB2 := Lib.hid hb2
  clear hb2
  go_wp2
  go_ret2
  have h12 := HB1.out.trans (HB2.out.mono HB1.out.size)
  exact ⟨_, rfl, sl_one (s := signW n t) _ (by rw [signW_size]; decide) (w' := w), h12.alloc h12.size _⟩

theorem leB_small (m : Nat) : leB m 2 = [UInt8.ofNat m, UInt8.ofNat (m / 256)] := by simp [leB]
theorem bytes3_row (a b c : Nat) : bytesOf [UInt8.ofNat a, UInt8.ofNat b, UInt8.ofNat c] = [.int .u8 ((a : Int) % 256), .int .u8 ((b : Int) % 256), .int .u8 ((c : Int) % 256)] := by
  simp [bytesOf]

def RSignIs (n t : Nat) (w : World) (e : Ending) (w' : World) : Prop := ∃ v, e = .returned v ∧ SlAt rpStr w' v [signW n t] ∧ Below w.heap.size w w'
theorem three_bytes (w : World) (a b c : Nat) (ha : a < 256) (hb : b < 256) (hc : c < 256) : (convert 92 9 (.slice (some ⟨w.heap.size, 0, none⟩) 3 3)).run Try.prog (w.alloc (.cells #[.int .u8 a, .int .u8 b, .int .u8 c] 5)) =
    .ok (.string ⟨[UInt8.ofNat a, UInt8.ofNat b, UInt8.ofNat c].toArray⟩) (w.alloc (.cells #[.int .u8 a, .int .u8 b, .int .u8 c] 5)) := by
  refine convert_bytes (base := 0) ⟨by simp [bytesOf], .inr ⟨w.heap.size, 3, _, rfl, Nat.zero_le _, heap_alloc_new w _, Nat.le_refl _, by decide, rfl, ?_⟩⟩
  rw [bytes3_row, Int.emod_eq_of_lt (by omega) (by omega), Int.emod_eq_of_lt (by omega) (by omega), Int.emod_eq_of_lt (by omega) (by omega)]
  rfl

set_option maxRecDepth 100000 in
set_option maxHeartbeats 1000000 in
theorem rsign_any (n t : Nat) (h : n < 3) (ht : t < 65536) (w : World) : Calls Try.prog 30 #[.int .i64 n, .int .u16 t] w (RSignIs n t w) := by
  have hcv := three_bytes w n (t % 256) (t / 256) (by omega) (by omega) (by omega)
  have e1 : (t : Int).tmod 256 = ((t % 256 : Nat) : Int) := by rw [Int.tmod_eq_emod_of_nonneg (by omega)]; omega
  have e2 : (t : Int).tdiv 256 = ((t / 256 : Nat) : Int) := by rw [Int.tdiv_eq_ediv_of_nonneg (by omega)]; omega
  have hq : t / 256 < 256 := by omega
  have hr : t % 256 < 256 := by omega
  have hw : signW n t = ⟨[UInt8.ofNat n, UInt8.ofNat (t % 256), UInt8.ofNat (t / 256)].toArray⟩ := by
    unfold signW
    congr 2
    have h8 : UInt8.ofNat t = UInt8.ofNat (t % 256) := UInt8.toNat_inj.1 (by simp)
    simp [leB, ← h8]
  have HW := Lib.hid hw
  clear hw
  generalize t % 256 = r at *
  generalize t / 256 = q at *
  go_enter Try.func30, Try.ntmps30
  go_wp2
  go_ret
  have := sl_one (w := w.alloc (.cells #[.int .u8 n, .int .u8 r, .int .u8 q] 5)) (s := signW n t) 9 (by rw [signW_size]; decide) (w' := w)
  rw [HW.out] at this
  unfold RSignIs
  rw [HW.out]
  exact ⟨_, rfl, by simpa using this, ((Below.refl _ _).alloc (Nat.le_refl _) _).alloc (by simp) _⟩

end Go.Proofs.Ytmakghcoehkphaa
