/-
  Rows of bytes as strings. Conditions: none.
-/
import Derived.Test.YtfkcldaogfengaaBase
namespace Go.Proofs.Ytfkcldaogfengaa
open Go.RowKit
set_option linter.unusedVariables false

/-- A row of bytes, as a string. -/
theorem convert_bytes {w : World} {base : Nat} {a : Option Addr} {c n : Nat} {xs : List UInt8} (ho : w.ownsRow base 5 1 (.slice a n c) n (bytesOf xs)) :
    (convert 52 9 (.slice a n c)).run Try.prog w = .ok (.string ⟨xs.toArray⟩) w := by
  have hl : xs.length = n := by have := ho.1; simpa [bytesOf] using this
  rcases ho.2 with ⟨h, h0⟩ | ⟨g, cap, cur, h, _, _, _, _, _, _⟩
  · obtain ⟨rfl, rfl, rfl⟩ : a = none ∧ n = 0 ∧ c = 0 := by simpa using h
    obtain rfl : xs = [] := List.eq_nil_of_length_eq_zero hl
    exact run_convert_bytes_nil w _ _ Try.underlying52 Try.underlying5 _ _ _ Try.underlying9
  · obtain ⟨rfl, rfl⟩ : a = some ⟨g, 0, none⟩ ∧ c = cap := by simpa using h
    have hc : ∀ i, i < n → w.cell? ⟨g, 0 + i, none⟩ = some (.int .u8 ((xs.map fun b => (b.toNat : Int)).getD i 0)) := by
      intro i hi
      have hi' : i < xs.length := by omega
      have h1 := ho.cells (g := g) rfl i (.int .u8 (xs[i].toNat)) (by simp [bytesOf, hi'])
      rw [Addr.add_lit] at h1
      rw [h1]
      simp [List.getD, hi']
    rw [run_convert_bytes_arg w _ _ Try.underlying52 Try.underlying5 g 0 n c (xs.map fun b => (b.toNat : Int)) (by simpa using hl) hc _ Try.underlying9]
    congr 2
    apply ByteArray.ext
    have hid : ((fun n : Int => UInt8.ofNat n.toNat) ∘ fun b : UInt8 => (b.toNat : Int)) = id := by funext b; simp
    simp [strOfNums, hid]


/-- One byte, of a number. -/
theorem convert_byte (w : World) (n : Int) (h : 0 ≤ n ∧ n < 256) : (convert 52 9 (.slice (some ⟨w.heap.size, 0, none⟩) 1 1)).run Try.prog (w.alloc (.cells #[.int .u8 n] 5)) =
    .ok (.string ⟨[UInt8.ofNat n.toNat].toArray⟩) (w.alloc (.cells #[.int .u8 n] 5)) := by
  have e : ((UInt8.ofNat n.toNat).toNat : Int) = n := by
    rw [UInt8.toNat_ofNat']
    have : n.toNat % 256 = n.toNat := Nat.mod_eq_of_lt (by omega)
    omega
  refine convert_bytes (base := 0) ⟨by simp [bytesOf], .inr ⟨w.heap.size, 1, _, rfl, Nat.zero_le _, heap_alloc_new w _, Nat.le_refl _, by decide, rfl, ?_⟩⟩
  show _ = bytesOf [UInt8.ofNat n.toNat]
  unfold bytesOf
  rw [List.map_cons, List.map_nil, e]
  rfl

section
variable {P : Program}
/-- A conversion whose run is known. -/
theorem wpList_convert_run {ops : Array Oper} {rest : List Oper} {o : Oper} {a : Act} {w w' : World} {v vx : Value} {Q : Exit → Act → World → Prop} (hg : o.guard = none) (x : Operand) (f t : TypeId)
    (ho : o.op = .convert f t x) (hx : a.eval x = vx) (hrun : (convert f t vx).run P w = .ok v w') (hK : wpList P ops Q rest (a.put o.dst v) w') : wpList P ops Q (o :: rest) a w :=
  wpList_run hg (by simp [execOp, ho, hx, hrun, Result.andThen]) hK
end
end Go.Proofs.Ytfkcldaogfengaa
