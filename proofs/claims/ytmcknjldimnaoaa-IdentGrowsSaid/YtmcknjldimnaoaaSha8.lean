/-
  SHA-256: sha.padded. Conditions: the text has no more than 2^40 bytes.
-/
import Derived.Test.YtmcknjldimnaoaaSha7
import Derived.Test.YtmcknjldimnaoaaShelf
namespace Go.Proofs.Ytmcknjldimnaoaa
open Go.RowKit Go.BigFrame
set_option linter.unusedVariables false
set_option linter.unusedSimpArgs false

theorem srepeat_zero (c : Nat) : Lib.repeatL [(0 : UInt8)] c = List.replicate c 0 := by
  induction c with
  | zero => rfl
  | succ c ih => simp [Lib.repeatL, ih, List.replicate_succ]
theorem repeat0_any (c : Nat) (hc : c ≤ 63) (w : World) : Calls Try.prog 52 #[.string ⟨#[0]⟩, .int .i64 c] w fun e w' => e = .returned (.string ⟨(List.replicate c (0 : UInt8)).toArray⟩) ∧ Below w.heap.size w w' := by
  have h := Try.strings_Repeat (ByteArray.mk #[0]) c w (by omega) (by rw [show (ByteArray.mk #[0]).size = 1 from rfl]; omega)
  rw [show (ByteArray.mk #[0]).data.toList = [0] from rfl, srepeat_zero] at h
  exact h

def PaddedIs (s : ByteArray) (w : World) (e : Ending) (w' : World) : Prop := e = .returned (.string ⟨(padL s.data.toList).toArray⟩) ∧ Below w.heap.size w w'
set_option maxRecDepth 100000 in
set_option maxHeartbeats 1000000 in
theorem padded_any (s : ByteArray) (hs : s.size ≤ 1099511627776) (w : World) : Calls Try.prog 91 #[.string s] w (PaddedIs s w) := by
  obtain ⟨z, hz⟩ : ∃ z, z = zerosOf s.size := ⟨_, rfl⟩
  have hz1 : z ≤ 63 := by rw [hz]; exact zerosOf_le _
  have hz2 : (119 - (s.size : Int) % 64) % 64 = z := by rw [hz]; unfold zerosOf; omega
  have HZ := Lib.hid hz
  clear hz
  go_enter Try.func91, Try.ntmps91
  go_wp2_with fail
  refine (repeat0_any z hz1 _).mono ?_
  rintro e w1 ⟨rfl, hb1⟩
  have HB1 := Lib.hid hb1
  clear hb1
  go_wp2_with fail
  have hh := high_any (s.size * 8) 8 (by omega) (by omega) w1
  rw [Int.natCast_mul] at hh
  refine hh.mono ?_
  rintro e w2 ⟨rfl, hb2⟩
  have HB2 := Lib.hid (HB1.out.trans (hb2.mono HB1.out.size))
  clear hb2 hh
  have hbl := beL_len (s.size * 8) 8
  go_wp2_with fail
  go_ret
  refine ⟨?_, HB2.out⟩
  have hval : s ++ ⟨#[128]⟩ ++ ⟨Array.replicate z 0⟩ ++ ⟨(beL (s.size * 8) 8).toArray⟩ = (⟨(padL s.data.toList).toArray⟩ : ByteArray) := by
    rw [HZ.out]
    apply ByteArray.ext
    apply Array.ext'
    simp [padL]
  exact congrArg (fun x => Ending.returned (.string x)) hval
end Go.Proofs.Ytmcknjldimnaoaa
