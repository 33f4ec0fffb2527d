/-
  kedgeref05.Cut: a transaction of not too many parts, in memory of its own. Conditions: none beyond each theorem's own.
-/
import Derived.Test.YtelindgnkpfkiaaTxo
import Derived.BigQuiet
import Derived.Deep.QuietTactic
import Derived.Deep.RegionHeld3
import Derived.OwnWalk
import Derived.Deep.LoopGhost
import Derived.Deep.DeepCutAuto
import Derived.Deep.CutBlock
namespace Go.Proofs.Ytelindgnkpfkiaa
open Go.RowKit
set_option linter.unusedVariables false
set_option linter.unusedSimpArgs false

def capB (n : Nat) (s : ByteArray) : ByteArray := if n < s.size then s.extract 0 n else s
theorem capB_size (n : Nat) (s : ByteArray) : (capB n s).size ≤ s.size := by
  unfold capB; split
  · simp [ByteArray.size_extract]; omega
  · exact Nat.le_refl _
theorem capB_le (n : Nat) (s : ByteArray) : (capB n s).size ≤ n := by
  unfold capB; split
  · simp [ByteArray.size_extract]; omega
  · omega
def cutIn (x : PIn) : PIn := ⟨capB 40 x.id, x.idx, x.seq, (x.wit.take 6).map (capB 90)⟩
def cutOut (x : POut) : POut := ⟨x.val, capB 50 x.script⟩
def cutTx (most : Nat) (t : PTx) : PTx := ⟨t.ver, (t.ins.take most).map cutIn, (t.outs.take most).map cutOut, t.lock⟩

theorem info_out : (Try.prog.info? 37).map (fun i => (i.zero, i.size, i.bytes)) = some (some (.agg #[.int .i64 0, .string ByteArray.empty]), 2, 24) := by kernel_rfl
theorem info_str : (Try.prog.info? 9).map (fun i => (i.zero, i.size, i.bytes)) = some (some (.string ByteArray.empty), 1, 16) := by kernel_rfl

/-- The block of the element that is being made. -/
structure XW (wr : World) (cs : Array Value) (e : TypeId) (wq : World) : Prop where
  bel : Below wr.heap.size wr wq
  x : wq.heap[wr.heap.size]? = some (.cells cs e (0, 0))
theorem XW.size {wr wq : World} {cs : Array Value} {e : TypeId} (h : XW wr cs e wq) : wr.heap.size + 1 ≤ wq.heap.size := (Array.getElem?_eq_some_iff.1 h.x).1
theorem XW.next {wr wq w' : World} {cs : Array Value} {e : TypeId} (h : XW wr cs e wq) (hb : Below (wr.heap.size + 1) wq w') : XW wr cs e w' :=
  ⟨h.bel.trans (hb.mono (by omega)), (hb.block _ (by omega)).trans h.x⟩
theorem XW.put {wr wq : World} {cs : Array Value} {e : TypeId} (h : XW wr cs e wq) (j : Nat) (u : Value) : XW wr (cs.setIfInBounds j u) e (wq.setCell ⟨wr.heap.size, j, none⟩ u) :=
  ⟨h.bel.setCell (Nat.le_refl _) _, heap_setCell_at h.x⟩
theorem XW.start0 (wr : World) (cs : Array Value) (e : TypeId) : XW wr cs e (wr.alloc (.cells cs e)) :=
  ⟨(Below.refl _ _).alloc (Nat.le_refl _) _, heap_alloc_new wr _⟩
theorem XW.start (wr : World) (cs : Array Value) (e : TypeId) : XW wr cs e (wr.alloc (.cells cs e)).drew :=
  ⟨((Below.refl _ _).alloc (Nat.le_refl _) _).drew, heap_alloc_new wr _⟩

theorem take_enough {α : Type} {l : List α} {j m : Nat} (h1 : j ≤ l.length) (h2 : j ≤ m) (h : ¬ (j < l.length ∧ j < m)) : l.take j = l.take m := by
  rcases Nat.lt_or_ge j l.length with hj | hj
  · obtain rfl : j = m := by omega
    rfl
  · rw [List.take_of_length_le hj, List.take_of_length_le (by omega)]
theorem strCells_snoc (l : List ByteArray) (s : ByteArray) : strCells (l ++ [s]) = strCells l ++ [.string s] := by simp [strCells]
theorem take_snoc {α : Type} {l : List α} {j : Nat} {x : α} (h : l[j]? = some x) : l.take (j + 1) = l.take j ++ [x] := by
  rw [List.take_add_one, h]; rfl
end Go.Proofs.Ytelindgnkpfkiaa
