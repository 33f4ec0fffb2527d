/-
  The script that pays to a tag, both ways. Conditions: the tag is a number.
-/
import Derived.Test.YtelindgnkpfkiaaLock
import Derived.Test.YtelindgnkpfkiaaNew
namespace Go.Proofs.Ytelindgnkpfkiaa
open Go.RowKit Go.BigFrame
set_option linter.unusedVariables false
set_option linter.unusedSimpArgs false

/-- The script that pays to a tag. -/
def scrL (t : Nat) : List UInt8 := leB 1 1 ++ putBr ⟨t, 0, 0⟩
def scrT (t : Nat) : ByteArray := ⟨(scrL t).toArray⟩
theorem scrL_len (t : Nat) : (scrL t).length = 9 := by simp [scrL, putBr, leB_length]
theorem scrT_size (t : Nat) : (scrT t).size = 9 := by rw [scrT, mk_size, scrL_len]
theorem lockPut_one (t : Nat) : lockPut [⟨t, 0, 0⟩] = (scrL t, 0) := by
  rw [lockPut_ok (by simp) (by simp [tooHigh])]
  simp [scrL]

theorem sl_brn (w : World) (tag : Nat) (ht : tag < 65536) : SlAt rpBr (w.alloc (.cells #[.int .u16 tag, .int .u16 0, .int .u32 0] 77)) (.slice (some ⟨w.heap.size, 0, none⟩) 1 1) [⟨tag, 0, 0⟩] := by
  refine ⟨_, 1, rfl, Nat.le_refl _, by decide, fun i x hi => ?_⟩
  have h0 : i = 0 := by have := (List.getElem?_eq_some_iff.1 hi).1; simpa using this
  subst h0
  obtain rfl : (⟨tag, 0, 0⟩ : PBr) = x := by simpa using hi
  refine ⟨_, 0, [.int .u16 tag, .int .u16 0, .int .u32 0], rfl, rfl, fun j u hj => ?_, rfl, ⟨ht, by show 0 < _; decide, by show 0 < _; decide⟩⟩
  rw [cell_at (heap_alloc_new w _)]
  simpa using hj
theorem lput_one (w : World) (tag : Nat) (ht : tag < 65536) : Calls Try.prog 24 #[.slice (some ⟨w.heap.size, 0, none⟩) 1 1] (w.alloc (.cells #[.int .u16 tag, .int .u16 0, .int .u32 0] 77)) fun e w' =>
    e = .returned (.tuple #[.string (scrT tag), .int .i64 0]) ∧ Below (w.alloc (.cells #[.int .u16 tag, .int .u16 0, .int .u32 0] 77)).heap.size (w.alloc (.cells #[.int .u16 tag, .int .u16 0, .int .u32 0] 77)) w' :=
  (lput_any _ [⟨tag, 0, 0⟩] _ (sl_brn w tag ht)).mono fun e w' ⟨h1, h2⟩ => ⟨by rw [h1, lockPut_one]; rfl, h2⟩
theorem scrL_bytes (t : Nat) : scrL t = [1, UInt8.ofNat (t % 256), UInt8.ofNat (t / 256), 0, 0, 0, 0, 0, 0] := by
  have h8 : UInt8.ofNat t = UInt8.ofNat (t % 256) := UInt8.toNat_inj.1 (by simp)
  simp [scrL, putBr, leB, ← h8]
theorem nine_bytes (w : World) (b c : Nat) (hb : b < 256) (hc : c < 256) : (convert 88 9 (.slice (some ⟨w.heap.size, 0, none⟩) 9 9)).run Try.prog (w.alloc (.cells #[.int .u8 1, .int .u8 b, .int .u8 c, .int .u8 0, .int .u8 0, .int .u8 0, .int .u8 0, .int .u8 0, .int .u8 0] 5)) =
    .ok (.string ⟨[1, UInt8.ofNat b, UInt8.ofNat c, 0, 0, 0, 0, 0, 0].toArray⟩) (w.alloc (.cells #[.int .u8 1, .int .u8 b, .int .u8 c, .int .u8 0, .int .u8 0, .int .u8 0, .int .u8 0, .int .u8 0, .int .u8 0] 5)) := by
  refine convert_bytes (base := 0) ⟨by simp [bytesOf], .inr ⟨w.heap.size, 9, _, rfl, Nat.zero_le _, heap_alloc_new w _, Nat.le_refl _, by decide, rfl, ?_⟩⟩
  have e : bytesOf [1, UInt8.ofNat b, UInt8.ofNat c, 0, 0, 0, 0, 0, 0] = [.int .u8 1, .int .u8 ((b : Int) % 256), .int .u8 ((c : Int) % 256), .int .u8 0, .int .u8 0, .int .u8 0, .int .u8 0, .int .u8 0, .int .u8 0] := by simp [bytesOf]
  rw [e, Int.emod_eq_of_lt (by omega) (by omega), Int.emod_eq_of_lt (by omega) (by omega)]
  rfl
set_option maxRecDepth 100000 in
set_option maxHeartbeats 1000000 in
theorem rscript_any (t : Nat) (ht : t < 65536) (w : World) : Calls Try.prog 17 #[.int .u16 t] w (fun e w' => e = .returned (.string (scrT t)) ∧ Below w.heap.size w w') := by
  have hcv := nine_bytes w (t % 256) (t / 256) (by omega) (by omega)
  have e1 : (t : Int).tmod 256 = ((t % 256 : Nat) : Int) := by rw [Int.tmod_eq_emod_of_nonneg (by omega)]; omega
  have e2 : (t : Int).tdiv 256 = ((t / 256 : Nat) : Int) := by rw [Int.tdiv_eq_ediv_of_nonneg (by omega)]; omega
  have hq : t / 256 < 256 := by omega
  have hr : t % 256 < 256 := by omega
  have HW := Lib.hid (show scrT t = ⟨[1, UInt8.ofNat (t % 256), UInt8.ofNat (t / 256), 0, 0, 0, 0, 0, 0].toArray⟩ by unfold scrT; rw [scrL_bytes])
  generalize t % 256 = r at *
  generalize t / 256 = q at *
  go_enter Try.func17, Try.ntmps17
  go_wp2
  go_ret
  rw [HW.out]
  exact ⟨rfl, (Below.refl _ _).alloc (Nat.le_refl _) _⟩
end Go.Proofs.Ytelindgnkpfkiaa
