/-
  Two or three blocks made one behind the other. Conditions: none.
-/
import Derived.Test.YtfkcldaogfengaaRep
namespace Go.Proofs.Ytfkcldaogfengaa
open Go.RowKit Go.BigFrame
theorem stay {w w1 : World} {b : Nat} {ob : Obj} (h : w.heap[b]? = some ob) (hb : Below w.heap.size w w1) : w1.heap[b]? = some ob := (hb.block _ (Array.getElem?_eq_some_iff.1 h).1).trans h
theorem stay_set {w : World} {b B j : Nat} {ob : Obj} {u : Value} (h : w.heap[b]? = some ob) (hb : b ≠ B) : (w.setCell ⟨B, j, none⟩ u).heap[b]? = some ob := (Below.heap_setCell _ _ _ _ hb).trans h
theorem lt_of {w : World} {b : Nat} {ob : Obj} (h : w.heap[b]? = some ob) : b < w.heap.size := (Array.getElem?_eq_some_iff.1 h).1
theorem new2 (w : World) (X : Nat) (hX : X = w.heap.size) (o1 o2 : Obj) : ((w.alloc o1).alloc o2).heap[X]? = some o1 ∧ ((w.alloc o1).alloc o2).heap[X + 1]? = some o2 ∧ Below w.heap.size w ((w.alloc o1).alloc o2) := by
  subst hX
  have h1 := heap_alloc_new w o1
  have h2 := heap_alloc_new (w.alloc o1) o2
  have hs : (w.alloc o1).heap.size = w.heap.size + 1 := by simp
  have hb : Below (w.alloc o1).heap.size (w.alloc o1) ((w.alloc o1).alloc o2) := (Below.refl _ _).alloc (Nat.le_refl _) o2
  rw [hs] at h2
  exact ⟨(hb.block _ (Array.getElem?_eq_some_iff.1 h1).1).trans h1, h2, ((Below.refl _ _).alloc (Nat.le_refl _) o1).trans (hb.mono (by omega))⟩
theorem new3 (w : World) (X : Nat) (hX : X = w.heap.size) (o1 o2 o3 : Obj) : (((w.alloc o1).alloc o2).alloc o3).heap[X]? = some o1 ∧ (((w.alloc o1).alloc o2).alloc o3).heap[X + 1]? = some o2 ∧ (((w.alloc o1).alloc o2).alloc o3).heap[X + 1 + 1]? = some o3 ∧ Below w.heap.size w (((w.alloc o1).alloc o2).alloc o3) := by
  obtain ⟨h1, h2, h3⟩ := new2 w X hX o1 o2
  subst hX
  have h4 := heap_alloc_new ((w.alloc o1).alloc o2) o3
  have hs : ((w.alloc o1).alloc o2).heap.size = w.heap.size + 1 + 1 := by simp
  have hb : Below ((w.alloc o1).alloc o2).heap.size ((w.alloc o1).alloc o2) (((w.alloc o1).alloc o2).alloc o3) := (Below.refl _ _).alloc (Nat.le_refl _) o3
  rw [hs] at h4
  exact ⟨(hb.block _ (Array.getElem?_eq_some_iff.1 h1).1).trans h1, (hb.block _ (Array.getElem?_eq_some_iff.1 h2).1).trans h2, h4, h3.trans (hb.mono (by omega))⟩
end Go.Proofs.Ytfkcldaogfengaa
