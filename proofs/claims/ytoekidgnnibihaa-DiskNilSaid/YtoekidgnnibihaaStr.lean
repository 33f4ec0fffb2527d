/-
  strings.HasPrefix answers whether a text begins with another one. Conditions: none.
-/
import Derived.Test.YtoekidgnnibihaaBase
namespace Go.Proofs.Ytoekidgnnibihaa
open Go.RowKit
set_option linter.unusedVariables false

def preB (s p : ByteArray) : Bool := p.data.toList.isPrefixOf s.data.toList

theorem preB_long {s p : ByteArray} (h : s.size < p.size) : preB s p = false := by
  unfold preB
  rw [Bool.eq_false_iff]
  intro h1
  have h2 := (List.isPrefixOf_iff_prefix.1 h1).length_le
  simp at h2
  omega
theorem preB_cut {s p : ByteArray} (h : p.size ≤ s.size) : ((s.extract 0 p.size).toList == p.toList) = preB s p := by
  unfold preB
  rw [Bool.eq_iff_iff, beq_iff_eq, List.isPrefixOf_iff_prefix, List.prefix_iff_eq_take, ByteArray.toList_eq, ByteArray.toList_eq]
  constructor
  · intro e
    rw [← e]; simp
  · intro e
    rw [e]; simp

set_option maxHeartbeats 400000 in
theorem prefixIn_any (s p : ByteArray) (hs : s.size ≤ 9223372036854775807) (hp : p.size ≤ 9223372036854775807) (w : World) :
    Calls Try.prog 23 #[.string s, .string p] w fun e w' => e = .returned (.bool (preB s p)) ∧ w = w' := by
  by_cases h : p.size ≤ s.size
  · rw [← preB_cut h]
    go_enter Try.func23, Try.ntmps23
    go_wp2
    go_ret
    exact ⟨rfl, rfl⟩
  · rw [preB_long (by omega)]
    go_enter Try.func23, Try.ntmps23
    go_wp2
    go_ret
    exact ⟨rfl, rfl⟩

set_option maxHeartbeats 400000 in
theorem prefix_any (s p : ByteArray) (hs : s.size ≤ 9223372036854775807) (hp : p.size ≤ 9223372036854775807) (w : World) :
    Calls Try.prog 15 #[.string s, .string p] w fun e w' => e = .returned (.bool (preB s p)) ∧ w = w' := by
  go_enter Try.func15, Try.ntmps15
  go_wp2_with (go_at_call 23; refine (prefixIn_any _ _ hs hp _).mono ?_; rintro e w' ⟨rfl, rfl⟩)
  go_ret
  exact ⟨rfl, rfl⟩

end Go.Proofs.Ytoekidgnnibihaa
