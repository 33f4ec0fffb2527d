/-
  SHA-256: the contracts of Sum and Twice, the program's and the document's. Conditions: no more than 2^40 bytes.
-/
import Derived.Test.YtfkcldaogfengaaSha11
namespace Go.Proofs.Ytfkcldaogfengaa
open Go.RowKit Go.BigFrame
set_option linter.unusedVariables false
set_option linter.unusedSimpArgs false

/-- The digest of a text, as a text. -/
def dig (s : ByteArray) : ByteArray := ⟨(sumL s.data.toList).toArray⟩
theorem dig_size (s : ByteArray) : (dig s).size = 32 := by unfold dig; rw [mk_size, sumL_len]
theorem rsumd (s : ByteArray) (hs : s.size ≤ 1099511627776) (w : World) : Calls Try.prog 66 #[.string s] w fun e w' => e = .returned (.string (dig s)) ∧ Below w.heap.size w w' := rsum_any s hs w
set_option maxRecDepth 100000 in
set_option maxHeartbeats 1000000 in
theorem rtwice_any (s : ByteArray) (hs : s.size ≤ 1099511627776) (w : World) : Calls Try.prog 54 #[.string s] w fun e w' => e = .returned (.string (dig (dig s))) ∧ Below w.heap.size w w' := by
  go_enter Try.func54, Try.ntmps54
  go_wp2_with fail
  refine (rsumd s hs w).mono ?_
  rintro e w1 ⟨rfl, hb⟩
  have HB := Lib.hid hb
  clear hb
  go_wp2_with fail
  refine (rsumd (dig s) (by rw [dig_size]; omega) w1).mono ?_
  rintro e w2 ⟨rfl, hb⟩
  have HB2 := Lib.hid (HB.out.trans (hb.mono HB.out.size))
  clear hb
  go_wp2_with fail
  go_ret
  exact ⟨rfl, HB2.out⟩
end Go.Proofs.Ytfkcldaogfengaa
