/-
  ChildBuilds, part 2: the texts Ca, Cut, Fit, Cp, Cb, New, one after another. Conditions: none beyond those named at each.
-/
import Derived.Test.YtmakghcoehkphaaTxA
import Derived.Test.YtmakghcoehkphaaTxo
import Derived.BigQuiet
import Derived.Deep.QuietTactic
import Derived.Deep.RegionHeld3
import Derived.OwnWalk
import Derived.Deep.LoopGhost
import Derived.Deep.DeepCutAuto
import Derived.Deep.CutBlock
import Derived.Test.YtmakghcoehkphaaConv
import Derived.Test.YtmakghcoehkphaaTail
import Derived.Test.YtmakghcoehkphaaLockP
import Derived.Test.YtmakghcoehkphaaQ1ChildBuilds
import Derived.Test.YtmakghcoehkphaaTxN
import Derived.Test.YtmakghcoehkphaaTxB
import Derived.Test.YtmakghcoehkphaaWb
import Derived.Test.YtmakghcoehkphaaRep
section
/-
  The fee of a size at a rate, both ways. Conditions: none.
-/
namespace Go.Proofs.Ytmakghcoehkphaa
open Go.RowKit Go.BigFrame
set_option linter.unusedVariables false
set_option linter.unusedSimpArgs false

/-- The fee and the error. -/
def feeE (r s : Int) : Int × Int := if (0 ≤ r ∧ r ≤ 100000000) ∧ 0 ≤ s ∧ s ≤ 1000000 then ((r * s + 999) / 1000, 0) else (0, 3)
def PIs (z : Int × Int) (w : World) (e : Ending) (w' : World) : Prop := e = .returned (.tuple #[.int .i64 z.1, .int .i64 z.2]) ∧ w = w'
theorem mul_in {r s : Int} (h : (0 ≤ r ∧ r ≤ 100000000) ∧ 0 ≤ s ∧ s ≤ 1000000) : 0 ≤ r * s ∧ r * s ≤ 100000000000000 := by
  refine ⟨Int.mul_nonneg h.1.1 h.2.1, ?_⟩
  have := Int.mul_le_mul h.1.2 h.2.2 h.2.1 (show (0 : Int) ≤ 100000000 by decide)
  exact Int.le_trans this (by decide)
set_option maxHeartbeats 1000000 in
theorem fee_any (r s : Int) (w : World) : Calls Try.prog 14 #[.int .i64 r, .int .i64 s] w (PIs (feeE r s) w) := by
  by_cases h : (0 ≤ r ∧ r ≤ 100000000) ∧ 0 ≤ s ∧ s ≤ 1000000
  · have hE : feeE r s = ((r * s + 999) / 1000, 0) := if_pos h
    have hm := mul_in h
    have HE := Lib.hid hE
    obtain ⟨⟨h1, h2⟩, h3, h4⟩ := h
    clear hE
    obtain ⟨m, hmm⟩ : ∃ m, m = r * s := ⟨_, rfl⟩
    go_enter Try.func14, Try.ntmps14
    go_wp2_with (go_at_call 34; refine (awithin_any _ _ w).mono ?_; rintro e w' ⟨rfl, rfl⟩)
    go_ret2
    exact ⟨by rw [HE.out, show r * s + 1000 - 1 = r * s + 999 by omega]; rfl, rfl⟩
  · have HE := Lib.hid (show feeE r s = (0, 3) from if_neg h)
    have hc : ¬ 0 ≤ r ∨ (0 ≤ r ∧ ¬ r ≤ 100000000) ∨ ((0 ≤ r ∧ r ≤ 100000000) ∧ ¬ 0 ≤ s) ∨ ((0 ≤ r ∧ r ≤ 100000000) ∧ 0 ≤ s ∧ ¬ s ≤ 1000000) := by omega
    clear h
    go_enter Try.func14, Try.ntmps14
    rcases hc with h | ⟨h1, h⟩ | ⟨⟨h1, h2⟩, h⟩ | ⟨⟨h1, h2⟩, h3, h⟩
    all_goals
      go_wp2_with (go_at_call 34; refine (awithin_any _ _ w).mono ?_; rintro e w' ⟨rfl, rfl⟩)
      all_goals first | (rename_i hh; simp at hh; omega) | (go_ret2; exact ⟨by rw [HE.out]; rfl, rfl⟩)
theorem rfee_any (r s : Int) (w : World) : Calls Try.prog 33 #[.int .i64 r, .int .i64 s] w (PIs (feeE r s) w) := by
  by_cases h : (0 ≤ r ∧ r ≤ 100000000) ∧ 0 ≤ s ∧ s ≤ 1000000
  · have hE : feeE r s = ((r * s + 999) / 1000, 0) := if_pos h
    have hm := mul_in h
    have HE := Lib.hid hE
    obtain ⟨⟨h1, h2⟩, h3, h4⟩ := h
    clear hE
    have hlt : r * s / 1000 * 1000 < r * s ∨ r * s / 1000 * 1000 = r * s := by omega
    go_enter Try.func33, Try.ntmps33
    rcases hlt with hl | hl
    · go_wp2_with fail
      go_ret2
      exact ⟨by rw [HE.out, show r * s / 1000 + 1 = (r * s + 999) / 1000 by omega]; rfl, rfl⟩
    · have hl2 : ¬ r * s / 1000 * 1000 < r * s := by omega
      clear hl
      go_wp2_with fail
      go_ret2
      exact ⟨by rw [HE.out, show r * s / 1000 = (r * s + 999) / 1000 by omega]; rfl, rfl⟩
  · have HE := Lib.hid (show feeE r s = (0, 3) from if_neg h)
    have hc : r < 0 ∨ (¬ r < 0 ∧ 100000000 < r) ∨ (¬ r < 0 ∧ ¬ 100000000 < r ∧ s < 0) ∨ (¬ r < 0 ∧ ¬ 100000000 < r ∧ ¬ s < 0 ∧ 1000000 < s) := by omega
    clear h
    go_enter Try.func33, Try.ntmps33
    rcases hc with h | ⟨h1, h⟩ | ⟨h1, h2, h⟩ | ⟨h1, h2, h3, h⟩
    all_goals
      go_wp2_with fail
      go_ret2
      exact ⟨by rw [HE.out]; rfl, rfl⟩
end Go.Proofs.Ytmakghcoehkphaa
end

section
/-
  kedgeref05.Cut: a transaction of not too many parts, in memory of its own. Conditions: none beyond each theorem's own.
-/
namespace Go.Proofs.Ytmakghcoehkphaa
open Go.RowKit
set_option linter.unusedVariables false
set_option linter.unusedSimpArgs false

def capB (n : Nat) (s : ByteArray) : ByteArray := if n < s.size then s.extract 0 n else s
theorem capB_size (n : Nat) (s : ByteArray) : (capB n s).size ≤ s.size := by
  unfold capB; split
  · simp [ByteArray.size_extract]; omega
  · exact Nat.le_refl _
theorem capB_le (n : Nat) (s : ByteArray) : (capB n s).size ≤ n := by
  unfold capB; split
  · simp [ByteArray.size_extract]; omega
  · omega
def cutIn (x : PIn) : PIn := ⟨capB 40 x.id, x.idx, x.seq, (x.wit.take 6).map (capB 90)⟩
def cutOut (x : POut) : POut := ⟨x.val, capB 50 x.script⟩
def cutTx (most : Nat) (t : PTx) : PTx := ⟨t.ver, (t.ins.take most).map cutIn, (t.outs.take most).map cutOut, t.lock⟩

theorem info_in : (Try.prog.info? 81).map (fun i => (i.zero, i.size, i.bytes)) = some (some (.agg #[.string ByteArray.empty, .int .u32 0, .int .u32 0, .slice none 0 0]), 4, 56) := by kernel_rfl
theorem info_out : (Try.prog.info? 37).map (fun i => (i.zero, i.size, i.bytes)) = some (some (.agg #[.int .i64 0, .string ByteArray.empty]), 2, 24) := by kernel_rfl
theorem info_str : (Try.prog.info? 9).map (fun i => (i.zero, i.size, i.bytes)) = some (some (.string ByteArray.empty), 1, 16) := by kernel_rfl

/-- The blocks of the call: the argument, the result, what is being made. -/
structure CW (w : World) (ver lock : Nat) (va vb vi vo : Value) (wr : World) : Prop where
  bel : Below w.heap.size w wr
  t : wr.heap[w.heap.size]? = some (.cells #[.int .u32 ver, va, vb, .int .u32 lock] 43 (0, 0))
  r : wr.heap[w.heap.size + 1]? = some (.cells #[.int .u32 0, .slice none 0 0, .slice none 0 0, .int .u32 0] 43 (0, 0))
  u : wr.heap[w.heap.size + 1 + 1]? = some (.cells #[.int .u32 ver, vi, vo, .int .u32 lock] 43 (0, 0))
theorem CW.size {w : World} {ver lock : Nat} {va vb vi vo : Value} {wr : World} (h : CW w ver lock va vb vi vo wr) : w.heap.size + 3 ≤ wr.heap.size := by
  have := (Array.getElem?_eq_some_iff.1 h.u).1; omega
theorem CW.next {w : World} {ver lock : Nat} {va vb vi vo : Value} {wr w' : World} (h : CW w ver lock va vb vi vo wr) {X : Nat} (hb : Below X wr w') (hX : w.heap.size + 3 ≤ X) : CW w ver lock va vb vi vo w' :=
  ⟨h.bel.trans (hb.mono (by omega)), (hb.block _ (by omega)).trans h.t, (hb.block _ (by omega)).trans h.r, (hb.block _ (by omega)).trans h.u⟩
theorem CW.start (w : World) (ver lock : Nat) (va vb : Value) : CW w ver lock va vb (.slice none 0 0) (.slice none 0 0) (((w.alloc (.cells #[.int .u32 ver, va, vb, .int .u32 lock] 43)).alloc (.cells #[.int .u32 0, .slice none 0 0, .slice none 0 0, .int .u32 0] 43)).alloc (.cells #[.int .u32 ver, .slice none 0 0, .slice none 0 0, .int .u32 lock] 43)) := by
  have s1 : (w.alloc (.cells #[.int .u32 ver, va, vb, .int .u32 lock] 43)).heap.size = w.heap.size + 1 := by simp
  have s2 : ((w.alloc (.cells #[.int .u32 ver, va, vb, .int .u32 lock] 43)).alloc (.cells #[.int .u32 0, .slice none 0 0, .slice none 0 0, .int .u32 0] 43)).heap.size = w.heap.size + 1 + 1 := by simp
  refine ⟨(((Below.refl _ _).alloc (Nat.le_refl _) _).alloc (by omega) _).alloc (by omega) _, ?_, ?_, ?_⟩
  · rw [Below.heap_alloc _ _ _ (by omega), Below.heap_alloc _ _ _ (by omega)]
    exact heap_alloc_new w _
  · rw [Below.heap_alloc _ _ _ (by omega), ← s1]
    exact heap_alloc_new _ _
  · rw [← s2]
    exact heap_alloc_new _ _

/-- The block of the element that is being made. -/
structure XW (wr : World) (cs : Array Value) (e : TypeId) (wq : World) : Prop where
  bel : Below wr.heap.size wr wq
  x : wq.heap[wr.heap.size]? = some (.cells cs e (0, 0))
theorem XW.size {wr wq : World} {cs : Array Value} {e : TypeId} (h : XW wr cs e wq) : wr.heap.size + 1 ≤ wq.heap.size := (Array.getElem?_eq_some_iff.1 h.x).1
theorem XW.next {wr wq w' : World} {cs : Array Value} {e : TypeId} (h : XW wr cs e wq) (hb : Below (wr.heap.size + 1) wq w') : XW wr cs e w' :=
  ⟨h.bel.trans (hb.mono (by omega)), (hb.block _ (by omega)).trans h.x⟩
theorem XW.put {wr wq : World} {cs : Array Value} {e : TypeId} (h : XW wr cs e wq) (j : Nat) (u : Value) : XW wr (cs.setIfInBounds j u) e (wq.setCell ⟨wr.heap.size, j, none⟩ u) :=
  ⟨h.bel.setCell (Nat.le_refl _) _, heap_setCell_at h.x⟩
theorem XW.start0 (wr : World) (cs : Array Value) (e : TypeId) : XW wr cs e (wr.alloc (.cells cs e)) :=
  ⟨(Below.refl _ _).alloc (Nat.le_refl _) _, heap_alloc_new wr _⟩
theorem XW.start (wr : World) (cs : Array Value) (e : TypeId) : XW wr cs e (wr.alloc (.cells cs e)).drew :=
  ⟨((Below.refl _ _).alloc (Nat.le_refl _) _).drew, heap_alloc_new wr _⟩

theorem take_enough {α : Type} {l : List α} {j m : Nat} (h1 : j ≤ l.length) (h2 : j ≤ m) (h : ¬ (j < l.length ∧ j < m)) : l.take j = l.take m := by
  rcases Nat.lt_or_ge j l.length with hj | hj
  · obtain rfl : j = m := by omega
    rfl
  · rw [List.take_of_length_le hj, List.take_of_length_le (by omega)]
theorem strCells_snoc (l : List ByteArray) (s : ByteArray) : strCells (l ++ [s]) = strCells l ++ [.string s] := by simp [strCells]
theorem take_snoc {α : Type} {l : List α} {j : Nat} {x : α} (h : l[j]? = some x) : l.take (j + 1) = l.take j ++ [x] := by
  rw [List.take_add_one, h]; rfl
theorem CW.put {w : World} {ver lock : Nat} {va vb vi vo : Value} {wr : World} (h : CW w ver lock va vb vi vo wr) (vi' : Value) : CW w ver lock va vb vi' vo (wr.setCell ⟨w.heap.size + 1 + 1, 1, none⟩ vi') := by
  refine ⟨h.bel.setCell (by simp; omega) _, ?_, ?_, ?_⟩
  · exact (Below.heap_setCell _ _ _ _ (by simp; omega)).trans h.t
  · exact (Below.heap_setCell _ _ _ _ (by simp)).trans h.r
  · exact heap_setCell_at h.u
theorem CW.put2 {w : World} {ver lock : Nat} {va vb vi vo : Value} {wr : World} (h : CW w ver lock va vb vi vo wr) (vo' : Value) : CW w ver lock va vb vi vo' (wr.setCell ⟨w.heap.size + 1 + 1, 2, none⟩ vo') := by
  refine ⟨h.bel.setCell (by simp; omega) _, ?_, ?_, ?_⟩
  · exact (Below.heap_setCell _ _ _ _ (by simp; omega)).trans h.t
  · exact (Below.heap_setCell _ _ _ _ (by simp)).trans h.r
  · exact heap_setCell_at h.u

def CutIs (most : Nat) (t : PTx) (w : World) (e : Ending) (w' : World) : Prop := ∃ v, e = .returned v ∧ TxOwn w.heap.size w' v (cutTx most t) ∧ Below w.heap.size w w'

theorem cut_is {w wz w4 : World} {ver lock most : Nat} {ins : List PIn} {outs : List POut} {vi vo : Value} {ps : List (PIn × Value)} (hi : InsOwn (w.heap.size + 3) wz vi ps) (ho : OutsOwn (w.heap.size + 3) wz vo ((outs.take most).map cutOut))
    (ha : ∀ b, vo.ownBlock = some b → ¬ InsHas vi ps b) (hp : ps.map (·.1) = (ins.take most).map cutIn) (hv : ver < 4294967296 ∧ lock < 4294967296) (hk : ∀ b, w.heap.size + 3 ≤ b → w4.heap[b]? = wz.heap[b]?) (hb : Below w.heap.size w w4) :
    CutIs most ⟨ver, ins, outs, lock⟩ w (.returned (.agg #[.int .u32 ver, vi, vo, .int .u32 lock])) w4 :=
  ⟨_, rfl, ⟨⟨vi, vo, ps, rfl, hp.symm, (hi.kept fun b hh => hk b (hi.lt hh).1).base (by omega), (ho.kept fun b e => hk b (ho.row.lt b e).1).base (by omega), ha⟩, hv.1, hv.2⟩, hb⟩

end Go.Proofs.Ytmakghcoehkphaa
end

section
/-
  kedgeref05.ID and kedgeref05.Fit: a transaction of which the parts may be, in memory of its own. Conditions: none beyond each theorem's own.
-/
namespace Go.Proofs.Ytmakghcoehkphaa
open Go.RowKit Go.BigFrame
set_option linter.unusedVariables false
set_option linter.unusedSimpArgs false

/-- An In that may be; an Out that may be. -/
structure FitIn (x : PIn) : Prop where
  id : x.id.size = 32
  len : x.wit.length ≤ 4
  wit : ∀ s ∈ x.wit, s.size ≤ 80
structure FitOut (x : POut) : Prop where
  val : 0 ≤ x.val ∧ x.val < 100000000000000
  script : x.script.size ≤ 40
structure Fitted (t : PTx) : Prop where
  ins : ∀ x ∈ t.ins, FitIn x
  outs : ∀ x ∈ t.outs, FitOut x
  few : t.ins.length ≤ 8 ∧ t.outs.length ≤ 8

/-- What stands while a transaction is being made to fit. -/
structure FW (w : World) (X : Nat) (ver lock : Nat) (vi vo : Value) (ps : List (PIn × Value)) (outs : List POut) (wr : World) : Prop where
  bel : Below w.heap.size w wr
  r : wr.heap[w.heap.size + 1]? = some (.cells #[.int .u32 0, .slice none 0 0, .slice none 0 0, .int .u32 0] 43 (0, 0))
  u : wr.heap[X]? = some (.cells #[.int .u32 ver, vi, vo, .int .u32 lock] 43 (0, 0))
  ins : InsOwn (w.heap.size + 2) wr vi ps
  outs : OutsOwn (w.heap.size + 2) wr vo outs
  apart : ∀ b, vo.ownBlock = some b → ¬ InsHas vi ps b
  lowi : ∀ b, InsHas vi ps b → b < X
  lowo : ∀ b, vo.ownBlock = some b → b < X
  le : w.heap.size + 2 ≤ X

theorem insHas_set {v : Value} {ps : List (PIn × Value)} {i : Nat} {p p' : PIn × Value} (hi : ps[i]? = some p) (he : p'.2.ownBlock = p.2.ownBlock) {b : Nat} (h : InsHas v (ps.set i p') b) : InsHas v ps b := by
  rcases h with h | ⟨j, q, hq, hb⟩
  · exact .inl h
  · by_cases hj : j = i
    · subst hj
      rw [List.getElem?_set_self (List.getElem?_eq_some_iff.1 hi).1] at hq
      obtain rfl := Option.some.inj hq
      exact .inr ⟨j, p, hi, by rw [← he]; exact hb⟩
    · rw [List.getElem?_set_ne (Ne.symm hj)] at hq
      exact .inr ⟨j, q, hq, hb⟩

theorem FW.next {w : World} {X ver lock : Nat} {vi vo : Value} {ps : List (PIn × Value)} {outs : List POut} {wr w' : World} (h : FW w X ver lock vi vo ps outs wr) (hb : Below wr.heap.size wr w') : FW w X ver lock vi vo ps outs w' :=
  ⟨h.bel.trans (hb.mono h.bel.size), (hb.block _ (Array.getElem?_eq_some_iff.1 h.r).1).trans h.r, (hb.block _ (Array.getElem?_eq_some_iff.1 h.u).1).trans h.u, h.ins.below hb, h.outs.below hb, h.apart, h.lowi, h.lowo, h.le⟩

/-- A cell of an In is written. -/
theorem FW.set {w : World} {X ver lock b n c : Nat} {vo : Value} {ps : List (PIn × Value)} {outs : List POut} {wr : World} (h : FW w X ver lock (.slice (some ⟨b, 0, none⟩) n c) vo ps outs wr) {i : Nat} {p p' : PIn × Value} (hi : ps[i]? = some p) (j : Nat) (u : Value) (hj : j < 4) (hs : (inRow p).set j u = inRow p')
    (hw : wr.ownsRow (w.heap.size + 2) 9 1 p'.2 p'.1.wit.length (strCells p'.1.wit)) (hok : OkIn p'.1) (hb : p'.2.ownBlock = p.2.ownBlock) :
    FW w X ver lock (.slice (some ⟨b, 0, none⟩) n c) vo (ps.set i p') outs (wr.setCell ⟨b, i * 4 + j, none⟩ u) := by
  have hbi : w.heap.size + 2 ≤ b ∧ b < X := ⟨(h.ins.lt (.inl rfl)).1, h.lowi b (.inl rfl)⟩
  refine ⟨h.bel.setCell (by dsimp only; omega) _, ?_, ?_, h.ins.set hi j u hj hs hw hok (.inl hb), ?_, fun b' e hh => h.apart b' e (insHas_set hi hb hh), fun b' hh => h.lowi b' (insHas_set hi hb hh), h.lowo, h.le⟩
  · exact (Below.heap_setCell _ _ _ _ (by dsimp only; omega)).trans h.r
  · exact (Below.heap_setCell _ _ _ _ (by dsimp only; omega)).trans h.u
  · exact h.outs.kept fun b' e => Below.heap_setCell _ _ _ _ (fun e' => h.apart b' e (.inl (by rw [e']; rfl)))

theorem FW.setStr {w : World} {X ver lock : Nat} {vi vo : Value} {ps : List (PIn × Value)} {outs : List POut} {wr : World} (h : FW w X ver lock vi vo ps outs wr) {i : Nat} {x : PIn} {B l c : Nat} (hi : ps[i]? = some (x, .slice (some ⟨B, 0, none⟩) l c)) {k : Nat} (hk : k < x.wit.length) (s : ByteArray) (hs : s.size ≤ maxLen) :
    FW w X ver lock vi vo (ps.set i ({ x with wit := x.wit.set k s }, .slice (some ⟨B, 0, none⟩) l c)) outs (wr.setCell ⟨B, k, none⟩ (.string s)) := by
  have hB : InsHas vi ps B := .inr ⟨i, _, hi, rfl⟩
  have hbi : w.heap.size + 2 ≤ B ∧ B < X := ⟨(h.ins.lt hB).1, h.lowi B hB⟩
  refine ⟨h.bel.setCell (by dsimp only; omega) _, ?_, ?_, h.ins.setStr hi hk s hs, ?_, fun b' e hh => h.apart b' e (insHas_set (p' := ({ x with wit := x.wit.set k s }, .slice (some ⟨B, 0, none⟩) l c)) hi rfl hh), fun b' hh => h.lowi b' (insHas_set (p' := ({ x with wit := x.wit.set k s }, .slice (some ⟨B, 0, none⟩) l c)) hi rfl hh), h.lowo, h.le⟩
  · exact (Below.heap_setCell _ _ _ _ (by dsimp only; omega)).trans h.r
  · exact (Below.heap_setCell _ _ _ _ (by dsimp only; omega)).trans h.u
  · exact h.outs.kept fun b' e => Below.heap_setCell _ _ _ _ (fun e' => h.apart b' e (e' ▸ hB))

theorem FW.setOut {w : World} {X ver lock b n c : Nat} {vi : Value} {ps : List (PIn × Value)} {outs : List POut} {wr : World} (h : FW w X ver lock vi (.slice (some ⟨b, 0, none⟩) n c) ps outs wr) {i : Nat} {x x' : POut} (hi : outs[i]? = some x) (j : Nat) (u : Value) (hj : j < 2) (hs : (outRow x).set j u = outRow x') (hok : OkOut x') :
    FW w X ver lock vi (.slice (some ⟨b, 0, none⟩) n c) ps (outs.set i x') (wr.setCell ⟨b, i * 2 + j, none⟩ u) := by
  have hbi : w.heap.size + 2 ≤ b ∧ b < X := ⟨(h.outs.row.lt b rfl).1, h.lowo b rfl⟩
  refine ⟨h.bel.setCell (by dsimp only; omega) _, ?_, ?_, ?_, h.outs.set hi j u hj hs hok, h.apart, h.lowi, h.lowo, h.le⟩
  · exact (Below.heap_setCell _ _ _ _ (by dsimp only; omega)).trans h.r
  · exact (Below.heap_setCell _ _ _ _ (by dsimp only; omega)).trans h.u
  · exact h.ins.store _ _ (fun hh => h.apart b rfl hh)

theorem ownsRow_strAt {w : World} {base n c : Nat} {a : Option Addr} {l : List ByteArray} (h : w.ownsRow base 9 1 (.slice a n c) n (strCells l)) {j : Nat} {s : ByteArray} (hj : l[j]? = some s) : ∃ b, a = some ⟨b, 0, none⟩ ∧ w.cell? ⟨b, j, none⟩ = some (.string s) ∧ w.frozen? ⟨b, j, none⟩ = false := by
  have hl : l.length = n := by have := h.1; simpa [strCells] using this
  obtain ⟨b, rfl, -, -⟩ := ownsRow_some h (by have := (List.getElem?_eq_some_iff.1 hj).1; omega)
  refine ⟨b, rfl, ?_, ownsRow_free h j⟩
  have := h.cells (g := b) rfl j (.string s) (by simp [strCells, hj])
  rw [Addr.add_lit] at this
  simpa using this

/-! ### ID -/
def idByte (n : Int) (i : Nat) : Int := bits .xor .u8 (n / 2 ^ (i % 8) % 256) i
theorem wrap_u8_range (m : Int) : 0 ≤ IntKind.u8.wrap m ∧ IntKind.u8.wrap m < 256 := by
  rw [IntKind.wrap_u8]
  exact ⟨Int.emod_nonneg _ (by decide), Int.emod_lt_of_pos _ (by decide)⟩
theorem idByte_range (n : Int) (i : Nat) : 0 ≤ idByte n i ∧ idByte n i < 256 := wrap_u8_range _
def idL (n : Int) (k : Nat) : List UInt8 := (List.range k).map fun i => UInt8.ofNat (idByte n i).toNat
theorem idL_len (n : Int) (k : Nat) : (idL n k).length = k := by simp [idL]
theorem idL_succ (n : Int) (k : Nat) : idL n (k + 1) = idL n k ++ [UInt8.ofNat (idByte n k).toNat] := by simp [idL, List.range_succ]
def idB (n : Int) : ByteArray := ⟨(idL n 32).toArray⟩
theorem idB_size (n : Int) : (idB n).size = 32 := by rw [idB, mk_size, idL_len]

set_option maxRecDepth 100000 in
set_option maxHeartbeats 1000000 in
theorem id_any (n : Int) (w : World) : Calls Try.prog 21 #[.int .i64 n] w fun e w' => e = .returned (.string (idB n)) ∧ Below w.heap.size w w' := by
  go_enter Try.func21, Try.ntmps21
  go_wp2_with fail
  go_loopw [3, 4] (fun out i wr => ∃ k : Nat, k ≤ 32 ∧ i = .int .i64 k ∧ Below w.heap.size w wr ∧ out = .string ⟨(idL n k).toArray⟩) (fun _ i _ => 32 - (intOf i).toNat)
  case atStart => exact ⟨0, by omega, rfl, Below.refl _ _, rfl⟩
  case round =>
    obtain ⟨k, hk, rfl, hbw, rfl⟩ := hrel
    have HBW := Lib.hid hbw
    clear hbw
    by_cases hlt : k < 32
    · have hcv := convert_byte wr (idByte n k) (idByte_range n k)
      unfold idByte at hcv
      have hlen := idL_len n k
      go_wp2_with fail
      go_roundw
      case rel => exact ⟨k + 1, by omega, by go_num, HBW.out.alloc HBW.out.size _, by rw [idL_succ]; simp [idByte, mk_mk]⟩
      case measure => simp [intOf]; omega
    · obtain rfl : k = 32 := by omega
      go_wp2
      go_ret
      exact ⟨rfl, HBW.out⟩


def FitIs (w : World) (e : Ending) (w' : World) : Prop := ∃ v t, e = .returned v ∧ TxOwn w.heap.size w' v t ∧ Fitted t ∧ Below w.heap.size w w'

/-- The first so many Ins are as they may be. -/
def DoneIn (i : Nat) (ps : List (PIn × Value)) : Prop := ∀ (j : Nat) (p : PIn × Value), ps[j]? = some p → j < i → FitIn p.1
theorem DoneIn.set {i : Nat} {ps : List (PIn × Value)} (h : DoneIn i ps) (p : PIn × Value) : DoneIn i (ps.set i p) := by
  intro j q hq hj
  rw [List.getElem?_set_ne (by omega)] at hq
  exact h j q hq hj
theorem set_same {α : Type} {l : List α} {i : Nat} {a : α} (h : l[i]? = some a) : l.set i a = l := by
  obtain ⟨h1, h2⟩ := List.getElem?_eq_some_iff.1 h
  rw [← h2]
  exact List.set_getElem_self h1
def DoneOut (i : Nat) (os : List POut) : Prop := ∀ (j : Nat) (p : POut), os[j]? = some p → j < i → FitOut p
theorem DoneOut.set {i : Nat} {os : List POut} (h : DoneOut i os) (p : POut) : DoneOut i (os.set i p) := by
  intro j q hq hj
  rw [List.getElem?_set_ne (by omega)] at hq
  exact h j q hq hj

theorem DoneOut.step {i : Nat} {os : List POut} (h : DoneOut i os) {p : POut} (hp : FitOut p) : DoneOut (i + 1) (os.set i p) := by
  intro j q hq hj
  by_cases hji : j = i
  · subst hji
    rw [List.getElem?_set_self (by have := (List.getElem?_eq_some_iff.1 hq).1; simpa using this)] at hq
    obtain rfl := Option.some.inj hq
    exact hp
  · rw [List.getElem?_set_ne (Ne.symm hji)] at hq
    exact h j q hq (by omega)

theorem FW.start {w w1 : World} {ver lock : Nat} {va vb vi vo : Value} {l lk : Value} {ps : List (PIn × Value)} {outs : List POut}
    (hi : InsOwn (w.heap.size + 2) w1 vi ps) (ho : OutsOwn (w.heap.size + 2) w1 vo outs) (ha : ∀ b, vo.ownBlock = some b → ¬ InsHas vi ps b)
    (hb : Below (w.heap.size + 2) ((w.alloc (.cells #[l, va, vb, lk] 43)).alloc (.cells #[.int .u32 0, .slice none 0 0, .slice none 0 0, .int .u32 0] 43)) w1) :
    FW w w1.heap.size ver lock vi vo ps outs (w1.alloc (.cells #[.int .u32 ver, vi, vo, .int .u32 lock] 43)) := by
  have s1 : (w.alloc (.cells #[l, va, vb, lk] 43)).heap.size = w.heap.size + 1 := by simp
  have s2 : ((w.alloc (.cells #[l, va, vb, lk] 43)).alloc (.cells #[.int .u32 0, .slice none 0 0, .slice none 0 0, .int .u32 0] 43)).heap.size = w.heap.size + 2 := by simp
  have hsz := hb.size
  rw [s2] at hsz
  have hb0 : Below w.heap.size w w1 := (((Below.refl _ _).alloc (Nat.le_refl _) _).alloc (by omega) _).trans (hb.mono (by omega))
  have hal : Below w1.heap.size w1 (w1.alloc (.cells #[.int .u32 ver, vi, vo, .int .u32 lock] 43)) := (Below.refl _ _).alloc (Nat.le_refl _) _
  refine ⟨hb0.trans (hal.mono hb0.size), ?_, heap_alloc_new w1 _, hi.below hal, ho.below hal, ha, fun b hh => (hi.lt hh).2, fun b e => (ho.row.lt b e).2, hsz⟩
  rw [Below.heap_alloc _ _ _ (by omega), hb.block _ (by omega), ← s1]
  exact heap_alloc_new _ _

theorem fit_is {w wz w4 : World} {X ver lock : Nat} {vi vo : Value} {ps : List (PIn × Value)} {outs : List POut} (h : FW w X ver lock vi vo ps outs wz) (hv : ver < 4294967296 ∧ lock < 4294967296) (hd : DoneIn ps.length ps) (hdo : DoneOut outs.length outs) (hf : ps.length ≤ 8 ∧ outs.length ≤ 8)
    (hk : ∀ b, w.heap.size + 2 ≤ b → w4.heap[b]? = wz.heap[b]?) (hb : Below w.heap.size w w4) : FitIs w (.returned (.agg #[.int .u32 ver, vi, vo, .int .u32 lock])) w4 := by
  refine ⟨_, ⟨ver, ps.map (·.1), outs, lock⟩, rfl, ⟨⟨vi, vo, ps, rfl, rfl, (h.ins.kept fun b hh => hk b (h.ins.lt hh).1).base (by omega), (h.outs.kept fun b e => hk b (h.outs.row.lt b e).1).base (by omega), h.apart⟩, hv.1, hv.2⟩, ⟨?_, ?_, ?_⟩, hb⟩
  · intro x hx
    obtain ⟨p, hp, rfl⟩ := List.mem_map.1 hx
    obtain ⟨j, hj, rfl⟩ := List.mem_iff_getElem.1 hp
    exact hd j _ (List.getElem?_eq_getElem hj) hj
  · intro x hx
    obtain ⟨j, hj, rfl⟩ := List.mem_iff_getElem.1 hx
    exact hdo j _ (List.getElem?_eq_getElem hj) hj
  · simpa using hf

end Go.Proofs.Ytmakghcoehkphaa
end

section
/-
  The child of an anchor and a coin, as plain data. Conditions: none beyond each theorem's own.
-/
namespace Go.Proofs.Ytmakghcoehkphaa
open Go.RowKit Go.BigFrame
set_option linter.unusedVariables false
set_option linter.unusedSimpArgs false

/-- The script that pays to a tag. -/
def scrL (t : Nat) : List UInt8 := leB 1 1 ++ putBr ⟨t, 0, 0⟩
def scrT (t : Nat) : ByteArray := bL (scrL t)
theorem scrL_len (t : Nat) : (scrL t).length = 9 := by simp [scrL, putBr, leB_length]
theorem scrT_size (t : Nat) : (scrT t).size = 9 := by rw [scrT, bL_size, scrL_len]
theorem lockPut_one (t : Nat) : lockPut [⟨t, 0, 0⟩] = (scrL t, 0) := by
  rw [lockPut_ok (by simp) (by simp [tooHigh])]
  simp [scrL]

/-- A claim as plain data. -/
structure PCl where
  id : ByteArray
  idx : Nat
  val : Int
  br : Int
  lock : PBr
  dead : Int
structure PCl.Ok (a : PCl) : Prop where
  id : a.id.size ≤ maxLen
  idx : a.idx < 4294967296
  val : -9223372036854775808 ≤ a.val ∧ a.val ≤ 9223372036854775807
  br : -9223372036854775808 ≤ a.br ∧ a.br ≤ 9223372036854775807
  lock : a.lock.Ok
  dead : -9223372036854775808 ≤ a.dead ∧ a.dead ≤ 9223372036854775807
def clV (a : PCl) : Value := .agg #[.string a.id, .int .u32 a.idx, .int .i64 a.val, .int .i64 a.br, .int .u16 a.lock.tag, .int .u16 a.lock.delay, .int .u32 a.lock.height, .int .i64 a.dead]

def seqOf (d : Nat) : Nat := if 0 < d then d else 4294967293
def childTx (a : PCl) (cid : ByteArray) (ci tag : Nat) (v : Int) : PTx :=
  ⟨2, [⟨a.id, a.idx, seqOf a.lock.delay, [signW a.br.toNat tag]⟩, ⟨cid, ci, 4294967293, [signW 0 tag]⟩], [⟨v, scrT tag⟩], 0⟩
def noTx : PTx := ⟨0, [], [], 0⟩

/-- The dust bound of a script's length. -/
def leastE (n : Nat) : Int × Int := if 40 < n then (0, 20) else (3 * n + 228, 0)
def isDust (x : POut) : Bool := decide (x.script.size ≤ 40) && decide (x.val < 3 * x.script.size + 228)
theorem child_dust (v : Int) (tag : Nat) : isDust ⟨v, scrT tag⟩ = decide (v < 255) := by
  unfold isDust
  dsimp only
  rw [scrT_size]
  simp

/-- Two values together. -/
def add2 (a b : Int) : Int × Int := if goodA a && goodA b && goodA (a + b) then (a + b, 0) else (0, 3)

/-- The child and the error. -/
noncomputable def childOf (a : PCl) (cid : ByteArray) (ci : Nat) (cv : Int) (tag : Nat) (fee : Int) : PTx × Int :=
  if tag = 0 ∨ a.br < 0 ∨ 2 < a.br ∨ 0 < a.lock.height then (noTx, 2)
  else if (add2 a.val cv).2 ≠ 0 ∨ goodA fee = false then (noTx, 3)
  else if a.val + cv < fee then (noTx, 12)
  else if a.val + cv - fee < 255 then (noTx, 13)
  else if checkOf (childTx a cid ci tag (a.val + cv - fee)) ≠ 0 then (noTx, checkOf (childTx a cid ci tag (a.val + cv - fee)))
  else (childTx a cid ci tag (a.val + cv - fee), 0)

/-! ### its size -/
theorem len1 (n : Nat) (h : n < 253) : (vintL n).length = 1 := by unfold vintL; rw [if_pos h, leB_length]
theorem child_wit (a : PCl) (cid : ByteArray) (ci tag : Nat) (v : Int) : witOf (childTx a cid ci tag v) = true := by simp [witOf, childTx]
theorem child_len {a : PCl} {cid : ByteArray} (ci tag : Nat) (v : Int) (h1 : a.id.size = 32) (h2 : cid.size = 32) (b : Bool) : (encL (childTx a cid ci tag v) b).length = if b then 122 else 110 := by
  unfold encL childTx
  have d1 : a.id.data.toList.length = 32 := by rw [data_len]; exact h1
  have d2 : cid.data.toList.length = 32 := by rw [data_len]; exact h2
  have d3 : (scrT tag).data.toList.length = 9 := by rw [data_len]; exact scrT_size tag
  have d4 : ∀ k, (signW k tag).data.toList.length = 3 := fun k => by rw [data_len]; exact signW_size k tag
  cases b
  · simp [markL, witsL, inB, outB, sizedL, leB_length, len1, d1, d2, d3, scrT_size]
  · simp [markL, witsL, witB, inB, outB, sizedL, leB_length, len1, d1, d2, d3, d4, scrT_size, signW_size]
theorem child_weigh {a : PCl} {cid : ByteArray} (ci tag : Nat) (v : Int) (h1 : a.id.size = 32) (h2 : cid.size = 32) : weigh (childTx a cid ci tag v) = 452 := by
  unfold weigh
  rw [child_wit, child_len ci tag v h1 h2, child_len ci tag v h1 h2]
  decide
theorem child_size {a : PCl} {cid : ByteArray} {ci tag : Nat} {v : Int} (h : checkOf (childTx a cid ci tag v) = 0) : sizeE (childTx a cid ci tag v) = 113 := by
  have he := enc_of (whole_of h)
  have h1 := (he.ids ⟨a.id, a.idx, seqOf a.lock.delay, [signW a.br.toNat tag]⟩ (by simp [childTx])).1
  have h2 := (he.ids ⟨cid, ci, 4294967293, [signW 0 tag]⟩ (by simp [childTx])).1
  unfold sizeE weightE
  rw [if_pos h, child_weigh ci tag v h1 h2]
  decide

/-! ### whether it may be -/
theorem child_check {a : PCl} {cid : ByteArray} {ci tag : Nat} {v : Int} (h1 : a.id.size = 32) (h2 : cid.size = 32) (hb1 : isBase a.id a.idx = false) (hb2 : isBase cid ci = false) (hne : (a.id, a.idx) ≠ (cid, ci)) (hv : goodA v = true) : checkOf (childTx a cid ci tag v) = 0 := by
  have c1 : countsOf (childTx a cid ci tag v) = true := by simp [countsOf, childTx]
  have c2 : longOf (childTx a cid ci tag v) = false := by simp [longOf, childTx, longIn, scrT_size, signW_size]
  have c3 : formedOf (childTx a cid ci tag v) = true := by simp [formedOf, childTx, formIn, h1, h2, hb1, hb2]
  have c4 : dup (ptsOf (childTx a cid ci tag v)) = false := dup_no (by simp only [ptsOf, childTx, List.map_cons, List.map_nil, List.nodup_cons, List.mem_singleton]; exact ⟨hne, by simp, List.nodup_nil⟩)
  rw [check_sum c1 c2 c3 c4]
  have : sumOf (childTx a cid ci tag v) = (v, 0) := by
    unfold sumOf childTx
    simp [sumA, hv]
  rw [this]

/-! ### its locks open -/
theorem signedOf_sign {n t : Nat} (hn : n < 3) (ht : t < 65536) : signedOf [signW n t] = some (n, t) := by
  have e : (signW n t).data.toList = [UInt8.ofNat n, UInt8.ofNat t, UInt8.ofNat (t / 256)] := by simp [signW, leB]
  rw [signedOf_three e]
  have h1 : (UInt8.ofNat n).toNat = n := by simp; omega
  have h2 : (UInt8.ofNat t).toNat + 256 * (UInt8.ofNat (t / 256)).toNat = t := by simp; omega
  rw [h1, h2, if_pos hn]
theorem open_child (s : ByteArray) {t : PTx} {k : Nat} {x : PIn} {l : List PBr} {n tag : Nat} {br : PBr} (hx : t.ins[k]? = some x) (hw : x.wit = [signW n tag]) (hn : n < 3) (ht : tag < 65536) (hl : lockGet s = some l) (hb : l[n]? = some br) (hbt : br.tag = tag) (hh : br.height = 0) (hd : br.delay ≤ waitsOf t k) : openOf s t k = 0 := by
  rw [openOf_at hx]
  have hc : chosenOf s x.wit = (br, true) := by
    unfold chosenOf
    rw [hl, hw, signedOf_sign hn ht]
    dsimp only
    rw [hb]
    simp [hbt]
  unfold openAt
  rw [hc]
  dsimp only
  rw [if_neg (by decide), if_neg (by omega), if_neg (by omega)]
end Go.Proofs.Ytmakghcoehkphaa
end

section
/-
  Dust, both ways, and which of two rates is greater. Conditions: an output is one.
-/
namespace Go.Proofs.Ytmakghcoehkphaa
open Go.RowKit Go.BigFrame
set_option linter.unusedVariables false
set_option linter.unusedSimpArgs false

def PBs (z : Int × Int) (w : World) (e : Ending) (w' : World) : Prop := e = .returned (.tuple #[.int .i64 z.1, .int .i64 z.2]) ∧ Below w.heap.size w w'
def sizeD (n : Nat) : Int × Int := if 40 < n then (0, 20) else (9 + n, 0)
theorem fee_least {n : Nat} (h : ¬ 40 < n) : feeE 3000 (9 + (n : Int) + 67) = (3 * (n : Int) + 228, 0) := by
  unfold feeE
  rw [if_pos (by omega)]
  congr 1
  omega
theorem below_box {w w1 : World} {ob : Obj} (hb : Below (w.alloc ob).heap.size (w.alloc ob) w1) : Below w.heap.size w w1 := ((Below.refl _ _).alloc (Nat.le_refl _) _).trans (hb.mono (by simp))
set_option maxRecDepth 100000 in
set_option maxHeartbeats 1000000 in
theorem dsize_any (v : Value) (x : POut) (w : World) (hv : OutAt w v x) : Calls Try.prog 70 #[v] w (PBs (sizeD x.script.size) w) := by
  obtain ⟨rfl, -, h2⟩ := hv
  rw [maxLen_eq] at h2
  by_cases h : 40 < x.script.size
  · rw [show sizeD x.script.size = (0, 20) from if_pos h]
    go_enter Try.func70, Try.ntmps70
    go_wp2_with fail
    go_ret2
    exact ⟨rfl, (Below.refl _ _).alloc (Nat.le_refl _) _⟩
  · have HE := Lib.hid (show sizeD x.script.size = (9 + (x.script.size : Int), 0) from if_neg h)
    have hs : (bL (vintL x.script.size)).size = 1 := by rw [bL_size, len1 _ (by omega)]
    go_enter Try.func70, Try.ntmps70
    go_wp2_with fail
    refine (vput_any x.script.size (by omega) _).mono ?_
    rintro e w1 ⟨rfl, hb⟩
    have HB := Lib.hid (below_box hb)
    clear hb
    go_wp2_with fail
    go_ret2
    exact ⟨by rw [HE.out]; first | rfl | (congr 3; omega), HB.out⟩
set_option maxRecDepth 100000 in
set_option maxHeartbeats 1000000 in
theorem rdsize_any (v : Value) (x : POut) (w : World) (hv : OutAt w v x) : Calls Try.prog 81 #[v] w (PBs (sizeD x.script.size) w) := by
  obtain ⟨rfl, -, h2⟩ := hv
  rw [maxLen_eq] at h2
  have hz := heap_alloc_new w (.cells #[.int .i64 x.val, .string x.script] 37)
  by_cases h : 40 < x.script.size
  · rw [show sizeD x.script.size = (0, 20) from if_pos h]
    go_enter Try.func81, Try.ntmps81
    go_wp2_with fail
    go_ret2
    exact ⟨rfl, (Below.refl _ _).alloc (Nat.le_refl _) _⟩
  · have HE := Lib.hid (show sizeD x.script.size = (9 + (x.script.size : Int), 0) from if_neg h)
    have hs : (bL (vintL x.script.size)).size = 1 := by rw [bL_size, len1 _ (by omega)]
    go_enter Try.func81, Try.ntmps81
    go_upto_region 1 with fail
    have hal : Below w.heap.size w (w.alloc (.cells #[.int .i64 x.val, .string x.script] 37)) := (Below.refl _ _).alloc (Nat.le_refl _) _
    have HAL := Lib.hid hal
    clear hal
    generalize w.alloc (.cells #[.int .i64 x.val, .string x.script] 37) = w0 at *
    have c1 : w0.cell? ⟨w.heap.size, 1, none⟩ = some (.string x.script) := cell_at hz
    clear hz
    go_wp2_with fail
    refine (rvput_any x.script.size (by omega) _).mono ?_
    rintro e w1 ⟨rfl, hb⟩
    replace c1 := below_cells hb _ _ c1
    have HB := Lib.hid (HAL.out.trans (hb.mono HAL.out.size))
    clear hb
    go_wp2_with fail
    go_ret2
    exact ⟨by rw [HE.out]; first | rfl | (congr 3; omega), HB.out⟩
set_option maxRecDepth 100000 in
set_option maxHeartbeats 1000000 in
theorem dleast_any (v : Value) (x : POut) (w : World) (hv : OutAt w v x) : Calls Try.prog 49 #[v] w (PBs (leastE x.script.size) w) := by
  obtain ⟨rfl, hv1, h2⟩ := hv
  have HQ := Lib.hid (fun y => dsize_any _ x y ⟨rfl, hv1, h2⟩)
  rw [maxLen_eq] at h2
  by_cases h : 40 < x.script.size
  · rw [show leastE x.script.size = (0, 20) from if_pos h]
    rw [show sizeD x.script.size = (0, 20) from if_pos h] at HQ
    go_enter Try.func49, Try.ntmps49
    go_wp2_with fail
    refine (HQ.out _).mono ?_
    rintro e w1 ⟨rfl, hb⟩
    have HB := Lib.hid (below_box hb)
    clear hb
    go_wp2_with fail
    go_ret2
    exact ⟨rfl, HB.out⟩
  · rw [show leastE x.script.size = (3 * (x.script.size : Int) + 228, 0) from if_neg h]
    rw [show sizeD x.script.size = (9 + (x.script.size : Int), 0) from if_neg h] at HQ
    have HF := Lib.hid (fun y => fee_any 3000 (9 + (x.script.size : Int) + 67) y)
    rw [fee_least h] at HF
    go_enter Try.func49, Try.ntmps49
    go_wp2_with fail
    refine (HQ.out _).mono ?_
    rintro e w1 ⟨rfl, hb⟩
    have HB := Lib.hid (below_box hb)
    clear hb
    go_wp2_with fail
    refine (HF.out _).mono ?_
    rintro e w2 ⟨rfl, rfl⟩
    go_wp2_with fail
    go_ret2
    exact ⟨rfl, HB.out⟩
set_option maxRecDepth 100000 in
set_option maxHeartbeats 1000000 in
theorem rdleast_any (v : Value) (x : POut) (w : World) (hv : OutAt w v x) : Calls Try.prog 55 #[v] w (PBs (leastE x.script.size) w) := by
  obtain ⟨rfl, hv1, h2⟩ := hv
  have HQ := Lib.hid (fun y => rdsize_any _ x y ⟨rfl, hv1, h2⟩)
  rw [maxLen_eq] at h2
  by_cases h : 40 < x.script.size
  · rw [show leastE x.script.size = (0, 20) from if_pos h]
    rw [show sizeD x.script.size = (0, 20) from if_pos h] at HQ
    go_enter Try.func55, Try.ntmps55
    go_wp2_with fail
    refine (HQ.out _).mono ?_
    rintro e w1 ⟨rfl, hb⟩
    have HB := Lib.hid (below_box hb)
    clear hb
    go_wp2_with fail
    go_ret2
    exact ⟨rfl, HB.out⟩
  · rw [show leastE x.script.size = (3 * (x.script.size : Int) + 228, 0) from if_neg h]
    rw [show sizeD x.script.size = (9 + (x.script.size : Int), 0) from if_neg h] at HQ
    have HF := Lib.hid (fun y => rfee_any 3000 (9 + (x.script.size : Int) + 67) y)
    rw [fee_least h] at HF
    go_enter Try.func55, Try.ntmps55
    go_wp2_with fail
    refine (HQ.out _).mono ?_
    rintro e w1 ⟨rfl, hb⟩
    have HB := Lib.hid (below_box hb)
    clear hb
    go_wp2_with fail
    refine (HF.out _).mono ?_
    rintro e w2 ⟨rfl, rfl⟩
    go_wp2_with fail
    go_ret2
    exact ⟨rfl, HB.out⟩
set_option maxRecDepth 100000 in
set_option maxHeartbeats 1000000 in
theorem dust_any (v : Value) (x : POut) (w : World) (hv : OutAt w v x) : Calls Try.prog 26 #[v] w (BIs (isDust x) w) := by
  obtain ⟨rfl, hv1, h2⟩ := hv
  have HQ := Lib.hid (fun y => dleast_any _ x y ⟨rfl, hv1, h2⟩)
  have hz := heap_alloc_new w (.cells #[.int .i64 x.val, .string x.script] 37)
  have HAL := Lib.hid (show Below w.heap.size w (w.alloc (.cells #[.int .i64 x.val, .string x.script] 37)) from (Below.refl _ _).alloc (Nat.le_refl _) _)
  rw [maxLen_eq] at h2
  obtain ⟨r, hr⟩ : ∃ r, r = isDust x := ⟨_, rfl⟩
  rw [← hr]
  unfold isDust at hr
  go_enter Try.func26, Try.ntmps26
  go_upto_region 1 with fail
  generalize w.alloc (.cells #[.int .i64 x.val, .string x.script] 37) = w0 at *
  have c0 : w0.cell? ⟨w.heap.size, 0, none⟩ = some (.int .i64 x.val) := cell_at hz
  have c1 : w0.cell? ⟨w.heap.size, 1, none⟩ = some (.string x.script) := cell_at hz
  clear hz
  by_cases h : 40 < x.script.size
  · rw [show leastE x.script.size = (0, 20) from if_pos h] at HQ
    have HR := Lib.hid (show r = false by rw [hr, decide_eq_false (by omega)]; rfl)
    clear hr
    go_wp2_with fail
    refine (HQ.out _).mono ?_
    rintro e w1 ⟨rfl, hb⟩
    replace c0 := below_cells hb _ _ c0
    replace c1 := below_cells hb _ _ c1
    have HAL := Lib.hid (HAL.out.trans (hb.mono HAL.out.size))
    clear hb
    go_wp2_with fail
    go_ret
    exact ⟨by rw [HR.out]; rfl, HAL.out⟩
  · rw [show leastE x.script.size = (3 * (x.script.size : Int) + 228, 0) from if_neg h] at HQ
    have HR := Lib.hid (show r = decide (x.val < 3 * (x.script.size : Int) + 228) by rw [hr, decide_eq_true (by omega)]; rfl)
    clear hr
    go_wp2_with fail
    refine (HQ.out _).mono ?_
    rintro e w1 ⟨rfl, hb⟩
    replace c0 := below_cells hb _ _ c0
    replace c1 := below_cells hb _ _ c1
    have HAL := Lib.hid (HAL.out.trans (hb.mono HAL.out.size))
    clear hb
    go_wp2_with fail
    go_ret
    exact ⟨by rw [HR.out]; rfl, HAL.out⟩

/-- The place of the first Out that is dust; -1: none. -/
def firstD : List POut → Nat → Int
  | [], _ => -1
  | x :: r, i => if isDust x then (i : Int) else firstD r (i + 1)
theorem first_step {l : List POut} {k : Nat} {x : POut} (h : l[k]? = some x) : firstD (l.drop k) k = if isDust x then (k : Int) else firstD (l.drop (k + 1)) (k + 1) := by
  obtain ⟨h1, h2⟩ := List.getElem?_eq_some_iff.1 h
  rw [List.drop_eq_getElem_cons h1, h2]
  rfl
set_option maxRecDepth 100000 in
set_option maxHeartbeats 2000000 in
theorem rfirst_any (v : Value) (t : PTx) (w : World) (hv : TxAt w v t) : Calls Try.prog 31 #[v] w (CIs' (firstD t.outs 0) w) := by
  obtain ⟨va, vo, rfl, hia, hob, hv1, hv2⟩ := hv
  obtain ⟨a, c, rfl, hl1, hl2⟩ := hia.shape
  obtain ⟨a', c', rfl, hl1', hl2'⟩ := hob.shape
  rw [maxLen_eq] at hl2 hl2'
  have htb := TB.start hia hob
  have HTB := Lib.hid htb
  clear htb hia hob hv1 hv2
  obtain ⟨r, hr⟩ : ∃ r, r = firstD t.outs 0 := ⟨_, rfl⟩
  rw [← hr]
  have HR := Lib.hid hr
  clear hr
  obtain ⟨n, hn⟩ : ∃ n, n = t.ins.length := ⟨_, rfl⟩
  obtain ⟨n', hn'⟩ : ∃ n, n = t.outs.length := ⟨_, rfl⟩
  rw [← hn, ← hn'] at HTB
  rw [← hn] at hl1 ⊢
  rw [← hn'] at hl1' ⊢
  have HN' := Lib.hid hn'
  clear hn hn'
  go_enter Try.func31, Try.ntmps31
  go_upto_region 1 with fail
  generalize w.alloc (.cells #[.int .u32 t.ver, .slice a n c, .slice a' n' c', .int .u32 t.lock] 43) = w0 at *
  go_wp2_with fail
  go_loopg [3] n' (fun g i wr => ∃ (k : Nat), g = n' - k ∧ k ≤ n' ∧ i = .int .i64 k ∧ TB w (.slice a n c) (.slice a' n' c') t wr ∧ r = firstD (t.outs.drop k) k)
  case atStart => exact ⟨0, rfl, by omega, rfl, HTB.out, HR.out⟩
  case round =>
    clear HTB HR
    rename World => wo
    obtain ⟨k, hgk, hk, rfl, htb, hr⟩ := hrel
    have HGK := Lib.hid hgk
    have HTB := Lib.hid htb
    have HR := Lib.hid hr
    have c2 : wo.cell? ⟨w.heap.size, 2, none⟩ = some (.slice a' n' c') := cell_at htb.box
    clear hgk htb hr
    by_cases hlt : k < n'
    · obtain ⟨b, o, x, rfl, hx, hok, d0, d1⟩ := HTB.out.outs.outp hlt
      have hst := first_step hx
      have HQ := Lib.hid (fun y => rdleast_any _ x y ⟨rfl, hok⟩)
      obtain ⟨hok1, h2⟩ := hok
      rw [maxLen_eq] at h2
      clear hx
      by_cases h : 40 < x.script.size
      · rw [show leastE x.script.size = (0, 20) from if_pos h] at HQ
        rw [if_neg (by unfold isDust; rw [decide_eq_false (by omega)]; simp)] at hst
        have HST := Lib.hid hst
        clear hst
        go_wp2_with fail
        refine (HQ.out _).mono ?_
        rintro e w1 ⟨rfl, hb⟩
        replace c2 := below_cells hb _ _ c2
        replace d0 := below_cells hb _ _ d0
        replace d1 := below_cells hb _ _ d1
        have HTB := Lib.hid (HTB.out.next hb)
        clear hb
        go_wp2_with fail
        go_roundg (n' - (k + 1))
        case measure => have := HGK.out; omega
        case rel => exact ⟨k + 1, rfl, by omega, by go_num, HTB.out, HR.out.trans HST.out⟩
      · rw [show leastE x.script.size = (3 * (x.script.size : Int) + 228, 0) from if_neg h] at HQ
        by_cases hd : x.val < 3 * (x.script.size : Int) + 228
        · rw [if_pos (by unfold isDust; rw [decide_eq_true (by omega), decide_eq_true hd]; rfl)] at hst
          have HST := Lib.hid hst
          clear hst
          go_wp2_with fail
          refine (HQ.out _).mono ?_
          rintro e w1 ⟨rfl, hb⟩
          replace c2 := below_cells hb _ _ c2
          replace d0 := below_cells hb _ _ d0
          replace d1 := below_cells hb _ _ d1
          have HTB := Lib.hid (HTB.out.next hb)
          clear hb
          go_wp2_with fail
          go_ret
          exact ⟨by rw [HR.out, HST.out]; rfl, HTB.out.bel⟩
        · rw [if_neg (by unfold isDust; rw [decide_eq_false hd]; simp)] at hst
          have HST := Lib.hid hst
          clear hst
          go_wp2_with fail
          refine (HQ.out _).mono ?_
          rintro e w1 ⟨rfl, hb⟩
          replace c2 := below_cells hb _ _ c2
          replace d0 := below_cells hb _ _ d0
          replace d1 := below_cells hb _ _ d1
          have HTB := Lib.hid (HTB.out.next hb)
          clear hb
          go_wp2_with fail
          go_roundg (n' - (k + 1))
          case measure => have := HGK.out; omega
          case rel => exact ⟨k + 1, rfl, by omega, by go_num, HTB.out, HR.out.trans HST.out⟩
    · obtain rfl : k = n' := by omega
      have HF := Lib.hid (show r = -1 by rw [HR.out, List.drop_of_length_le (by rw [HN'.out]; exact Nat.le_refl _)]; rfl)
      go_wp2_with fail
      go_ret
      exact ⟨by rw [HF.out]; rfl, HTB.out.bel⟩
end Go.Proofs.Ytmakghcoehkphaa
end

section
/-
  Two or three blocks made one behind the other. Conditions: none.
-/
namespace Go.Proofs.Ytmakghcoehkphaa
open Go.RowKit Go.BigFrame
theorem new2 (w : World) (X : Nat) (hX : X = w.heap.size) (o1 o2 : Obj) : ((w.alloc o1).alloc o2).heap[X]? = some o1 ∧ ((w.alloc o1).alloc o2).heap[X + 1]? = some o2 ∧ Below w.heap.size w ((w.alloc o1).alloc o2) := by
  subst hX
  have h1 := heap_alloc_new w o1
  have h2 := heap_alloc_new (w.alloc o1) o2
  have hs : (w.alloc o1).heap.size = w.heap.size + 1 := by simp
  have hb : Below (w.alloc o1).heap.size (w.alloc o1) ((w.alloc o1).alloc o2) := (Below.refl _ _).alloc (Nat.le_refl _) o2
  rw [hs] at h2
  exact ⟨(hb.block _ (Array.getElem?_eq_some_iff.1 h1).1).trans h1, h2, ((Below.refl _ _).alloc (Nat.le_refl _) o1).trans (hb.mono (by omega))⟩
theorem new3 (w : World) (X : Nat) (hX : X = w.heap.size) (o1 o2 o3 : Obj) : (((w.alloc o1).alloc o2).alloc o3).heap[X]? = some o1 ∧ (((w.alloc o1).alloc o2).alloc o3).heap[X + 1]? = some o2 ∧ (((w.alloc o1).alloc o2).alloc o3).heap[X + 1 + 1]? = some o3 ∧ Below w.heap.size w (((w.alloc o1).alloc o2).alloc o3) := by
  obtain ⟨h1, h2, h3⟩ := new2 w X hX o1 o2
  subst hX
  have h4 := heap_alloc_new ((w.alloc o1).alloc o2) o3
  have hs : ((w.alloc o1).alloc o2).heap.size = w.heap.size + 1 + 1 := by simp
  have hb : Below ((w.alloc o1).alloc o2).heap.size ((w.alloc o1).alloc o2) (((w.alloc o1).alloc o2).alloc o3) := (Below.refl _ _).alloc (Nat.le_refl _) o3
  rw [hs] at h4
  exact ⟨(hb.block _ (Array.getElem?_eq_some_iff.1 h1).1).trans h1, (hb.block _ (Array.getElem?_eq_some_iff.1 h2).1).trans h2, h4, h3.trans (hb.mono (by omega))⟩
end Go.Proofs.Ytmakghcoehkphaa
end
