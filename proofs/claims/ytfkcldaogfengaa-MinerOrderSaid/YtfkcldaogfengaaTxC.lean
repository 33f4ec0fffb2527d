/-
  The base point, and what is one. Conditions: none beyond each theorem's own.
-/
import Derived.Test.YtfkcldaogfengaaTxB
import Derived.Test.YtfkcldaogfengaaShelf
namespace Go.Proofs.Ytfkcldaogfengaa
open Go.RowKit Go.BigFrame
set_option linter.unusedVariables false
set_option linter.unusedSimpArgs false

def zeros32 : ByteArray := ⟨(List.replicate 32 (0 : UInt8)).toArray⟩
theorem zeros32_size : zeros32.size = 32 := by decide
def isBase (id : ByteArray) (idx : Nat) : Bool := decide (id = zeros32) && decide (idx = 4294967295)
theorem zeros_of (s : ByteArray) (hs : s.size = 32) (h : ∀ (j : Nat) (hj : j < s.size), j < 32 → s[j] = 0) : s = zeros32 := by
  apply ByteArray.ext
  apply Array.ext
  · exact hs.trans zeros32_size.symm
  · intro i h1 h2
    have e : s.data[i] = 0 := h i h1 (by have : s.data.size = 32 := hs; omega)
    rw [e]
    simp only [zeros32, List.getElem_toArray, List.getElem_replicate]
theorem zeros_at (j : Nat) (hj : j < zeros32.size) : zeros32[j] = 0 := by
  show zeros32.data[j] = 0
  simp only [zeros32, List.getElem_toArray, List.getElem_replicate]

set_option maxRecDepth 100000 in
set_option maxHeartbeats 1000000 in
theorem rbase_any (id : ByteArray) (idx : Nat) (hi : idx < 4294967296) (hid : id.size ≤ 9223372036854775807) (w : World) : Calls Try.prog 33 #[.agg #[.string id, .int .u32 idx]] w fun e w' => e = .returned (.bool (isBase id idx)) ∧ Below w.heap.size w w' := by
  have hal : Below w.heap.size w (w.alloc (.cells #[.string id, .int .u32 idx] 63)) := (Below.refl _ _).alloc (Nat.le_refl _) _
  have hz := heap_alloc_new w (.cells #[.string id, .int .u32 idx] 63)
  have HAL := Lib.hid hal
  have HZ := Lib.hid hz
  clear hal hz
  go_enter Try.func33, Try.ntmps33
  go_upto_region 1 with fail
  generalize w.alloc (.cells #[.string id, .int .u32 idx] 63) = w0 at *
  have z0 : w0.cell? ⟨w.heap.size, 0, none⟩ = some (.string id) := cell_at HZ.out
  have z1 : w0.cell? ⟨w.heap.size, 1, none⟩ = some (.int .u32 idx) := cell_at HZ.out
  by_cases h32 : id.size = 32
  · by_cases hmx : idx = 4294967295
    · subst hmx
      go_wp2_with fail
      go_loopg [3] 32 (fun g i wr => ∃ k : Nat, g = 32 - k ∧ k ≤ 32 ∧ i = .int .i64 k ∧ wr = w0 ∧ ∀ (j : Nat) (hj : j < id.size), j < k → id[j] = 0)
      case atStart => exact ⟨0, rfl, by omega, rfl, rfl, fun j _ hj => absurd hj (Nat.not_lt_zero _)⟩
      case round =>
        rename World => wo
        obtain ⟨k, hgk, hk, rfl, rfl, hall⟩ := hrel
        have HGK := Lib.hid hgk
        have HALL := Lib.hid hall
        clear hgk hall
        by_cases hlt : k < 32
        · have hkl : k < id.size := by omega
          cases hb : (id[k] == 0)
          · have hne : id[k] ≠ 0 := by simpa using hb
            have hnat : (id[k].toNat : Int) ≠ 0 := by
              intro h
              apply hne
              apply UInt8.toNat_inj.1
              have : id[k].toNat = 0 := by omega
              rw [this]; rfl
            have hfin : isBase id 4294967295 = false := by
              unfold isBase
              rw [decide_eq_false, Bool.false_and]
              intro h
              subst h
              exact hne (zeros_at k hkl)
            have HF := Lib.hid hfin
            clear hfin hb hne
            go_wp2_with fail
            go_ret
            exact ⟨ret_bool HF.out.symm, HAL.out⟩
          · have heq : id[k] = 0 := by simpa using hb
            have hnat : (id[k].toNat : Int) = 0 := by rw [heq]; rfl
            clear hb
            go_wp2_with fail
            go_roundg (32 - (k + 1))
            case measure => have := HGK.out; omega
            case rel =>
              refine ⟨k + 1, rfl, by omega, by go_num, rfl, fun j hj hjk => ?_⟩
              rcases Nat.lt_or_ge j k with h | h
              · exact HALL.out j hj h
              · obtain rfl : j = k := by omega
                exact heq
        · obtain rfl : k = 32 := by omega
          have hfin : isBase id 4294967295 = true := by
            rw [zeros_of id h32 HALL.out]
            rfl
          have HF := Lib.hid hfin
          go_wp2_with fail
          go_ret
          exact ⟨ret_bool HF.out.symm, HAL.out⟩
    · have hmi : (idx : Int) ≠ 4294967295 := by omega
      have HF := Lib.hid (show isBase id idx = false by unfold isBase; rw [decide_eq_false hmx, Bool.and_false])
      go_wp2_with fail
      go_ret
      exact ⟨ret_bool HF.out.symm, HAL.out⟩
  · have hmi : (id.size : Int) ≠ 32 := by omega
    have HF := Lib.hid (show isBase id idx = false by
      unfold isBase
      rw [decide_eq_false, Bool.false_and]
      intro h
      exact h32 (by rw [h]; exact zeros32_size))
    go_wp2_with fail
    go_ret
    exact ⟨ret_bool HF.out.symm, HAL.out⟩

def ptV (a : ByteArray × Nat) : Value := .agg #[.string a.1, .int .u32 a.2]
theorem guardPt : Try.prog.eqGuardType Try.prog.depth 63 = false := by kernel_rfl
theorem eqIn_pt (a b : ByteArray × Nat) (w : World) : (Op.equalIn 10000 63 (ptV a) (ptV b)).run Try.prog w = .ok (decide (a = b)) w := by
  have hS : Try.prog.underlying 63 = some (.struct (Try.prog.fieldsOf 63)) := by kernel_rfl
  have hp : Try.prog.stoodInHeld 63 = false := by kernel_rfl
  obtain ⟨a1, a2⟩ := a
  obtain ⟨b1, b2⟩ := b
  unfold ptV
  dsimp only
  rw [show (10000 : Nat) = 9999 + 1 from rfl, run_equalIn_agg w 9999 63 _ _ hS hp]
  simp only [Program.fieldsOf, Try.underlying63]
  have u1 := Try.underlying9
  have u2 := Try.underlying37
  go_simp
  rw [ByteArray.toList_eq, ByteArray.toList_eq]
  by_cases h1 : a1 = b1
  · subst h1
    by_cases h2 : a2 = b2 <;> simp [h2]
    omega
  · have : a1.data.toList ≠ b1.data.toList := fun h => h1 (by cases a1; cases b1; simp at h; simp [h])
    simp [h1, this]
theorem eq_pt (a b : ByteArray × Nat) (w : World) : (binOp .eql 63 (ptV a) (ptV b)).run Try.prog w = .ok (.bool (decide (a = b))) w := by
  unfold ptV
  rw [run_eql_struct]
  have := eqIn_pt a b w
  unfold ptV at this
  rw [this]
  rfl
theorem isBase_pt (id : ByteArray) (idx : Nat) : decide ((id, idx) = (zeros32, 4294967295)) = isBase id idx := by
  unfold isBase
  by_cases h1 : id = zeros32 <;> by_cases h2 : idx = 4294967295 <;> simp [h1, h2]
theorem eq_base (id : ByteArray) (idx : Nat) (w : World) : (binOp .eql 63 (.agg #[.string id, .int .u32 idx]) (.agg #[.string zeros32, .int .u32 4294967295])).run Try.prog w = .ok (.bool (isBase id idx)) w := by
  rw [← isBase_pt]
  exact eq_pt (id, idx) (zeros32, 4294967295) w
theorem eqIn_base (id : ByteArray) (idx : Nat) (w : World) : (Op.equalIn 10000 63 (.agg #[.string id, .int .u32 idx]) (.agg #[.string zeros32, .int .u32 4294967295])).run Try.prog w = .ok (isBase id idx) w := by
  rw [← isBase_pt]
  exact eqIn_pt (id, idx) (zeros32, 4294967295) w
end Go.Proofs.Ytfkcldaogfengaa
