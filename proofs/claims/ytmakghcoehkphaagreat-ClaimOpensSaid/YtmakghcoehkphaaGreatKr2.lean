/-
  claim.Group: what holds while it goes. Conditions: none beyond each theorem's own.
-/
import Derived.Test.YtmakghcoehkphaaGreatQ9ClaimBuilds
import Derived.Test.YtmakghcoehkphaaGreatSorts
import Derived.Sort.OwnSortedInts
namespace Go.Proofs.YtmakghcoehkphaaGreat
open Go.RowKit Go.BigFrame Go.Maps Go.Sort
set_option linter.unusedVariables false
set_option linter.unusedSimpArgs false

/-- Rows of claims by bucket, the map of them, a row of buckets: in blocks of the call's own. -/
structure GR (w : World) (B : Nat) (V : Int → Value) (L : Int → List PCl) (r : Value) (bs : List Int) (cn : Nat) (wr : World) : Prop where
  bel : Below w.heap.size w wr
  low : w.heap.size ≤ B
  map : SlM wr B V cn
  rows : ∀ j, ClsOwn (B + 1) wr (V j) (L j)
  apart : ∀ i j b, i ≠ j → (V i).ownBlock = some b → (V j).ownBlock ≠ some b
  bks : wr.ownsRow (B + 1) 3 1 r bs.length (intCells bs)
  out : ∀ j b, (V j).ownBlock = some b → r.ownBlock ≠ some b
  size : B + 1 ≤ wr.heap.size
section
variable {w wr w' : World} {B cn : Nat} {V : Int → Value} {L : Int → List PCl} {r : Value} {bs : List Int}
theorem GR.below (h : GR w B V L r bs cn wr) (hb : Below wr.heap.size wr w') : GR w B V L r bs cn w' :=
  ⟨h.bel.trans (hb.mono h.bel.size), h.low, h.map.below hb, fun j => (h.rows j).below hb, h.apart, ownsRow_below h.bks hb, h.out, Nat.le_trans h.size hb.size⟩
theorem GR.more (h : GR w B V L r bs cn wr) : GR w B V L r bs (cn + 1) wr := ⟨h.bel, h.low, h.map.more, h.rows, h.apart, h.bks, h.out, h.size⟩
theorem shapeV (h : GR w B V L r bs cn wr) (j : Int) : ∃ a c, V j = .slice a (L j).length c := by
  obtain ⟨a, c, e, -, -⟩ := ownsRow_shape (h.rows j).row
  exact ⟨a, c, e⟩
/-- A bucket more. -/
theorem GR.bucket {a : Option Addr} {c : Nat} (h : GR w B V L (.slice a bs.length c) bs cn wr) (hn : bs.length ≤ 1000) (b : Int) :
    ∃ a' c' wd, (Builtin.append_ #[36, 36] 36 #[.slice a bs.length c, .slice (some ⟨wr.heap.size, 0, none⟩) 1 1]).run Tryz.prog (wr.alloc (.cells #[.int .i64 b] 3)) = .ok (.slice a' (bs.length + 1) c') wd ∧
      GR w B V L (.slice a' (bs.length + 1) c') (bs ++ [b]) cn wd ∧ (∀ k, k < wr.heap.size → (Value.slice a bs.length c).ownBlock ≠ some k → wd.heap[k]? = wr.heap[k]?) := by
  obtain ⟨i0, hi, hz0, hz1, hz2⟩ := info_parts info_int
  obtain ⟨a3, c3, w3, hrun, hown3, hb3, hg3, hv3⟩ := append_one (P := Tryz.prog) Tryz.underlying36 hi hz0 hz1 hz2 rfl h.bks #[.int .i64 b] rfl (by simp [Value.oneCell']) (by rw [maxLen_eq]; omega) (by omega) h.size (ty := 36)
  have hkeep : ∀ k, k < wr.heap.size → (Value.slice a bs.length c).ownBlock ≠ some k → w3.heap[k]? = wr.heap[k]? := fun k hk hne => by
    rw [hg3.block k (by simp; omega) (fun e => hne e.symm)]
    exact Below.heap_alloc _ _ k hk
  refine ⟨a3, c3, w3, hrun, ⟨h.bel.trans (hb3.mono (by have := h.low; omega)), h.low, h.map.kept (hkeep B h.map.lt fun e => by have := (h.bks.lt B e).1; omega), fun j => (h.rows j).kept fun k hk => hkeep k ((h.rows j).row.lt k hk).2 (h.out j k hk), h.apart, ?_, fun j k hk => ?_, Nat.le_trans h.size hb3.size⟩, hkeep⟩
  · rw [List.length_append, show intCells (bs ++ [b]) = intCells bs ++ [.int .i64 b] by simp [intCells]]
    exact hown3
  · have hlt := (h.rows j).row.lt k hk
    rcases hv3 with e | e
    · rw [e]; exact h.out j k hk
    · rw [e]
      intro q
      injection q with q
      omega
/-- A claim more in its bucket's row. -/
theorem GR.add {k : Int} {a : Option Addr} {c : Nat} (h : GR w B V L r bs cn wr) (hk : -1 ≤ k ∧ k ≤ 1000000) (hV : V k = .slice a (L k).length c) (hn : (L k).length ≤ 1000) (hcn : cn < 1000000) {x : PCl} (hx : x.Ok) :
    ∃ a' c' wd we, (Builtin.append_ #[22, 22] 22 #[.slice a (L k).length c, .slice (some ⟨wr.heap.size, 0, none⟩) 1 1]).run Tryz.prog (wr.alloc (.cells (clRow x).toArray 34)) = .ok (.slice a' ((L k).length + 1) c') wd ∧
      (Instr.mapUpdate 90 (.map (some B)) (.int .i64 k) (.slice a' ((L k).length + 1) c')).run Tryz.prog wd = .ok () we ∧
      GR w B (fun j => if j = k then .slice a' ((L k).length + 1) c' else V j) (fun j => if j = k then L k ++ [x] else L j) r bs (cn + 1) we := by
  have hrow : wr.ownsRow (B + 1) 34 8 (.slice a (L k).length c) (L k).length (clsCells (L k)) := hV ▸ (h.rows k).row
  have hlow := h.low
  obtain ⟨i0, hi, hz0, hz1, hz2⟩ := info_parts info_cl
  obtain ⟨a3, c3, w3, hrun, hown3, hb3, hg3, hv3⟩ := append_one (P := Tryz.prog) Tryz.underlying22 hi hz0 hz1 hz2 rfl hrow (clRow x).toArray rfl (by simp [clRow, Value.oneCell']) (by rw [maxLen_eq]; omega) (by omega) h.size (ty := 22)
  have hkeep : ∀ q, q < wr.heap.size → (V k).ownBlock ≠ some q → w3.heap[q]? = wr.heap[q]? := fun q hq hne => by
    rw [hg3.block q (by simp; omega) (fun e => hne (by rw [hV]; exact e.symm))]
    exact Below.heap_alloc _ _ q hq
  have hm3 : SlM w3 B V cn := h.map.kept (hkeep B h.map.lt fun e => by have := ((h.rows k).row.lt B e).1; omega)
  obtain ⟨d, hd⟩ := slElem_own hown3
  obtain ⟨w4, hput, hm4, hg4⟩ := hm3.put hk hd hcn
  have hnew : ∀ q, (Value.slice a3 ((L k).length + 1) c3).ownBlock = some q → (V k).ownBlock = some q ∨ q = wr.heap.size + 1 := fun q e => by
    rcases hv3 with e' | e'
    · exact .inl (by rw [hV, ← e', e])
    · rw [e'] at e
      injection e with e
      exact .inr e.symm
  have hrest : ∀ q, q < w3.heap.size → q ≠ B → w4.heap[q]? = w3.heap[q]? := fun q hq hne => hg4.block q hq (fun e => hne (by simpa [eq_comm] using e))
  have hB3 := hm3.lt
  refine ⟨a3, c3, w3, w4, hrun, hput, ⟨?_, h.low, hm4, fun j => ?_, fun i j q hij hi' => ?_, ?_, fun j q hq => ?_, Nat.le_trans h.size (Nat.le_trans hb3.size hg4.size)⟩⟩
  · exact (h.bel.trans (hb3.mono (by omega))).grown hg4 (Nat.le_trans h.bel.size hb3.size) (fun q hq => by injection hq with hq; omega)
  · by_cases hj : j = k
    · rw [if_pos hj, if_pos hj]
      refine (ClsOwn.snoc (w := wr) (h.rows k).ok hx hown3).kept fun q hq => ?_
      exact hrest q (hown3.lt q hq).2 (by have := (hown3.lt q hq).1; omega)
    · rw [if_neg hj, if_neg hj]
      refine (h.rows j).kept fun q hq => ?_
      have hlt := (h.rows j).row.lt q hq
      exact (hrest q (by have := hb3.size; omega) (by omega)).trans (hkeep q hlt.2 (h.apart j k q hj hq))
  · by_cases h1 : i = k
    · have h2 : ¬ j = k := fun e => hij (h1.trans e.symm)
      rw [if_pos h1] at hi'
      rw [if_neg h2]
      rcases hnew q hi' with e | e
      · exact h.apart k j q (Ne.symm h2) e
      · intro e2
        have := ((h.rows j).row.lt q e2).2
        omega
    · rw [if_neg h1] at hi'
      by_cases h2 : j = k
      · rw [if_pos h2]
        intro e2
        rcases hnew q e2 with e | e
        · exact h.apart i k q h1 hi' e
        · have := ((h.rows i).row.lt q hi').2
          omega
      · rw [if_neg h2]
        exact h.apart i j q hij hi'
  · refine ownsRow_of_block h.bks fun q hq => ?_
    have hlt := h.bks.lt q hq
    exact (hrest q (by have := hb3.size; omega) (by omega)).trans (hkeep q hlt.2 fun e => h.out k q e hq)
  · by_cases hj : j = k
    · rw [if_pos hj] at hq
      rcases hnew q hq with e | e
      · exact h.out k q e
      · intro e2
        have := (h.bks.lt q e2).2
        omega
    · rw [if_neg hj] at hq
      exact h.out j q hq
/-- A row is sorted. -/
theorem GR.sorted {k : Int} {g n c : Nat} (h : GR w B V L r bs cn wr) (hV : V k = .slice (some ⟨g, 0, none⟩) n c) {e : Ending} (hs : SortIs (B + 1) g n c (L k) wr e w') :
    GR w B V (fun j => if j = k then isort ltC (L k) else L j) r bs cn w' := by
  obtain ⟨-, hown, hg⟩ := hs
  have hgB : B + 1 ≤ g := ((h.rows k).row.lt g (by rw [hV]; rfl)).1
  have hne : ∀ q, q < wr.heap.size → q ≠ g → w'.heap[q]? = wr.heap[q]? := fun q hq hn => hg.block q hq (fun e => hn (by simpa [eq_comm] using e))
  refine ⟨h.bel.grown hg h.bel.size (fun q hq => by injection hq with hq; have := h.low; omega), h.low, h.map.kept (hne B h.map.lt (by omega)), fun j => ?_, h.apart, ownsRow_of_block h.bks fun q hq => ?_, h.out, Nat.le_trans h.size hg.size⟩
  · by_cases hj : j = k
    · rw [if_pos hj, hj, hV]
      exact hown
    · rw [if_neg hj]
      exact (h.rows j).kept fun q hq => hne q ((h.rows j).row.lt q hq).2 fun e => h.apart j k q hj hq (by rw [hV, e]; rfl)
  · exact hne q (h.bks.lt q hq).2 fun e => h.out k q (by rw [hV, e]; rfl) hq
/-- The buckets are sorted. -/
theorem GR.sortB {g c n : Nat} {os : Array Obj} {ts : List Int} (h : GR w B V L (.slice (some ⟨g, 0, none⟩) bs.length c) bs cn wr) (hl : ts.length = bs.length) :
    GR w B V L (.slice (some ⟨g, 0, none⟩) ts.length c) ts cn (grow (putRow (Value.int .i64) (Sort.ahead wr n) g 0 ts.toArray) os) := by
  have hg := grownBy_sortedI (w := wr) (g := g) (n := n) (os := os) ts.toArray
  have hne : ∀ q, q < wr.heap.size → q ≠ g → (grow (putRow (Value.int .i64) (Sort.ahead wr n) g 0 ts.toArray) os).heap[q]? = wr.heap[q]? := fun q hq hn => hg.block q hq (fun e => hn (by simpa [eq_comm] using e))
  have hgl := h.bks.lt g rfl
  rcases h.bks.2 with ⟨h0, -⟩ | ⟨g', cap, cur, hv, hgb, hb, hn, hcap, hsz, htk⟩
  · cases h0
  · obtain ⟨rfl, rfl⟩ : g = g' ∧ c = cap := by simpa using hv
    refine ⟨h.bel.grown hg h.bel.size (fun q hq => by injection hq with hq; have := h.low; omega), h.low, h.map.kept (hne B h.map.lt (by omega)), fun j => (h.rows j).kept fun q hq => hne q ((h.rows j).row.lt q hq).2 fun e => h.out j q hq (by rw [e]; rfl), h.apart, ?_, fun j q hq => h.out j q hq, Nat.le_trans h.size hg.size⟩
    have := ownsRow_sortedI (os := os) (n := n) hl hgb hb hn hcap (by simpa using hsz)
    rw [hl]
    exact this
end
end Go.Proofs.YtmakghcoehkphaaGreat
