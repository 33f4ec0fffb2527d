/-
  kedgeref05.Cut: a transaction of not too many parts, in memory of its own. Conditions: none beyond each theorem's own.
-/
import Derived.Test.YtmakghcoehkphaaGreatQ1ClaimBuilds
import Derived.BigQuiet
import Derived.Deep.QuietTactic
import Derived.Deep.RegionHeld3
import Derived.OwnWalk
import Derived.Deep.LoopGhost
import Derived.Deep.DeepCutAuto
import Derived.Deep.CutBlock
namespace Go.Proofs.YtmakghcoehkphaaGreat
open Go.RowKit
set_option linter.unusedVariables false
set_option linter.unusedSimpArgs false

def capB (n : Nat) (s : ByteArray) : ByteArray := if n < s.size then s.extract 0 n else s
theorem capB_size (n : Nat) (s : ByteArray) : (capB n s).size ≤ s.size := by
  unfold capB; split
  · simp [ByteArray.size_extract]; omega
  · exact Nat.le_refl _
theorem capB_le (n : Nat) (s : ByteArray) : (capB n s).size ≤ n := by
  unfold capB; split
  · simp [ByteArray.size_extract]; omega
  · omega
def cutIn (x : PIn) : PIn := ⟨capB 40 x.id, x.idx, x.seq, (x.wit.take 6).map (capB 90)⟩
def cutOut (x : POut) : POut := ⟨x.val, capB 50 x.script⟩
def cutTx (most : Nat) (t : PTx) : PTx := ⟨t.ver, (t.ins.take most).map cutIn, (t.outs.take most).map cutOut, t.lock⟩

theorem info_in : (Tryz.prog.info? 76).map (fun i => (i.zero, i.size, i.bytes)) = some (some (.agg #[.string ByteArray.empty, .int .u32 0, .int .u32 0, .slice none 0 0]), 4, 56) := by kernel_rfl
theorem info_out : (Tryz.prog.info? 38).map (fun i => (i.zero, i.size, i.bytes)) = some (some (.agg #[.int .i64 0, .string ByteArray.empty]), 2, 24) := by kernel_rfl
theorem info_str : (Tryz.prog.info? 9).map (fun i => (i.zero, i.size, i.bytes)) = some (some (.string ByteArray.empty), 1, 16) := by kernel_rfl

/-- The blocks of the call: the argument, the result, what is being made. -/
structure CW (w : World) (ver lock : Nat) (va vb vi vo : Value) (wr : World) : Prop where
  bel : Below w.heap.size w wr
  t : wr.heap[w.heap.size]? = some (.cells #[.int .u32 ver, va, vb, .int .u32 lock] 44 (0, 0))
  r : wr.heap[w.heap.size + 1]? = some (.cells #[.int .u32 0, .slice none 0 0, .slice none 0 0, .int .u32 0] 44 (0, 0))
  u : wr.heap[w.heap.size + 1 + 1]? = some (.cells #[.int .u32 ver, vi, vo, .int .u32 lock] 44 (0, 0))
theorem CW.size {w : World} {ver lock : Nat} {va vb vi vo : Value} {wr : World} (h : CW w ver lock va vb vi vo wr) : w.heap.size + 3 ≤ wr.heap.size := by
  have := (Array.getElem?_eq_some_iff.1 h.u).1; omega
theorem CW.next {w : World} {ver lock : Nat} {va vb vi vo : Value} {wr w' : World} (h : CW w ver lock va vb vi vo wr) {X : Nat} (hb : Below X wr w') (hX : w.heap.size + 3 ≤ X) : CW w ver lock va vb vi vo w' :=
  ⟨h.bel.trans (hb.mono (by omega)), (hb.block _ (by omega)).trans h.t, (hb.block _ (by omega)).trans h.r, (hb.block _ (by omega)).trans h.u⟩
theorem CW.start (w : World) (ver lock : Nat) (va vb : Value) : CW w ver lock va vb (.slice none 0 0) (.slice none 0 0) (((w.alloc (.cells #[.int .u32 ver, va, vb, .int .u32 lock] 44)).alloc (.cells #[.int .u32 0, .slice none 0 0, .slice none 0 0, .int .u32 0] 44)).alloc (.cells #[.int .u32 ver, .slice none 0 0, .slice none 0 0, .int .u32 lock] 44)) := by
  have s1 : (w.alloc (.cells #[.int .u32 ver, va, vb, .int .u32 lock] 44)).heap.size = w.heap.size + 1 := by simp
  have s2 : ((w.alloc (.cells #[.int .u32 ver, va, vb, .int .u32 lock] 44)).alloc (.cells #[.int .u32 0, .slice none 0 0, .slice none 0 0, .int .u32 0] 44)).heap.size = w.heap.size + 1 + 1 := by simp
  refine ⟨(((Below.refl _ _).alloc (Nat.le_refl _) _).alloc (by omega) _).alloc (by omega) _, ?_, ?_, ?_⟩
  · rw [Below.heap_alloc _ _ _ (by omega), Below.heap_alloc _ _ _ (by omega)]
    exact heap_alloc_new w _
  · rw [Below.heap_alloc _ _ _ (by omega), ← s1]
    exact heap_alloc_new _ _
  · rw [← s2]
    exact heap_alloc_new _ _

/-- The block of the element that is being made. -/
structure XW (wr : World) (cs : Array Value) (e : TypeId) (wq : World) : Prop where
  bel : Below wr.heap.size wr wq
  x : wq.heap[wr.heap.size]? = some (.cells cs e (0, 0))
theorem XW.size {wr wq : World} {cs : Array Value} {e : TypeId} (h : XW wr cs e wq) : wr.heap.size + 1 ≤ wq.heap.size := (Array.getElem?_eq_some_iff.1 h.x).1
theorem XW.next {wr wq w' : World} {cs : Array Value} {e : TypeId} (h : XW wr cs e wq) (hb : Below (wr.heap.size + 1) wq w') : XW wr cs e w' :=
  ⟨h.bel.trans (hb.mono (by omega)), (hb.block _ (by omega)).trans h.x⟩
theorem XW.put {wr wq : World} {cs : Array Value} {e : TypeId} (h : XW wr cs e wq) (j : Nat) (u : Value) : XW wr (cs.setIfInBounds j u) e (wq.setCell ⟨wr.heap.size, j, none⟩ u) :=
  ⟨h.bel.setCell (Nat.le_refl _) _, heap_setCell_at h.x⟩
theorem XW.start0 (wr : World) (cs : Array Value) (e : TypeId) : XW wr cs e (wr.alloc (.cells cs e)) :=
  ⟨(Below.refl _ _).alloc (Nat.le_refl _) _, heap_alloc_new wr _⟩
theorem XW.start (wr : World) (cs : Array Value) (e : TypeId) : XW wr cs e (wr.alloc (.cells cs e)).drew :=
  ⟨((Below.refl _ _).alloc (Nat.le_refl _) _).drew, heap_alloc_new wr _⟩

theorem take_enough {α : Type} {l : List α} {j m : Nat} (h1 : j ≤ l.length) (h2 : j ≤ m) (h : ¬ (j < l.length ∧ j < m)) : l.take j = l.take m := by
  rcases Nat.lt_or_ge j l.length with hj | hj
  · obtain rfl : j = m := by omega
    rfl
  · rw [List.take_of_length_le hj, List.take_of_length_le (by omega)]
theorem strCells_snoc (l : List ByteArray) (s : ByteArray) : strCells (l ++ [s]) = strCells l ++ [.string s] := by simp [strCells]
theorem take_snoc {α : Type} {l : List α} {j : Nat} {x : α} (h : l[j]? = some x) : l.take (j + 1) = l.take j ++ [x] := by
  rw [List.take_add_one, h]; rfl
theorem CW.put {w : World} {ver lock : Nat} {va vb vi vo : Value} {wr : World} (h : CW w ver lock va vb vi vo wr) (vi' : Value) : CW w ver lock va vb vi' vo (wr.setCell ⟨w.heap.size + 1 + 1, 1, none⟩ vi') := by
  refine ⟨h.bel.setCell (by simp; omega) _, ?_, ?_, ?_⟩
  · exact (Below.heap_setCell _ _ _ _ (by simp; omega)).trans h.t
  · exact (Below.heap_setCell _ _ _ _ (by simp)).trans h.r
  · exact heap_setCell_at h.u
theorem CW.put2 {w : World} {ver lock : Nat} {va vb vi vo : Value} {wr : World} (h : CW w ver lock va vb vi vo wr) (vo' : Value) : CW w ver lock va vb vi vo' (wr.setCell ⟨w.heap.size + 1 + 1, 2, none⟩ vo') := by
  refine ⟨h.bel.setCell (by simp; omega) _, ?_, ?_, ?_⟩
  · exact (Below.heap_setCell _ _ _ _ (by simp; omega)).trans h.t
  · exact (Below.heap_setCell _ _ _ _ (by simp)).trans h.r
  · exact heap_setCell_at h.u

def CutIs (most : Nat) (t : PTx) (w : World) (e : Ending) (w' : World) : Prop := ∃ v, e = .returned v ∧ TxOwn w.heap.size w' v (cutTx most t) ∧ Below w.heap.size w w'

theorem cut_is {w wz w4 : World} {ver lock most : Nat} {ins : List PIn} {outs : List POut} {vi vo : Value} {ps : List (PIn × Value)} (hi : InsOwn (w.heap.size + 3) wz vi ps) (ho : OutsOwn (w.heap.size + 3) wz vo ((outs.take most).map cutOut))
    (ha : ∀ b, vo.ownBlock = some b → ¬ InsHas vi ps b) (hp : ps.map (·.1) = (ins.take most).map cutIn) (hv : ver < 4294967296 ∧ lock < 4294967296) (hk : ∀ b, w.heap.size + 3 ≤ b → w4.heap[b]? = wz.heap[b]?) (hb : Below w.heap.size w w4) :
    CutIs most ⟨ver, ins, outs, lock⟩ w (.returned (.agg #[.int .u32 ver, vi, vo, .int .u32 lock])) w4 :=
  ⟨_, rfl, ⟨⟨vi, vo, ps, rfl, hp.symm, (hi.kept fun b hh => hk b (hi.lt hh).1).base (by omega), (ho.kept fun b e => hk b (ho.row.lt b e).1).base (by omega), ha⟩, hv.1, hv.2⟩, hb⟩

end Go.Proofs.YtmakghcoehkphaaGreat
