/-
  Transactions in memory of a call's own: rows that nobody else has, each In's witness in a row of its own. Conditions: none beyond each lemma's own.
-/
import Derived.Test.YtelindgnkpfkiaaTxd
namespace Go.Proofs.Ytelindgnkpfkiaa
open Go.RowKit
set_option linter.unusedVariables false
set_option linter.unusedSimpArgs false

/-! ### rows of cells of one size -/
theorem flat_len {α β : Type} (f : α → List β) (k : Nat) (hf : ∀ a, (f a).length = k) (l : List α) : (l.flatMap f).length = l.length * k := by
  induction l with
  | nil => simp
  | cons a l ih => rw [List.flatMap_cons, List.length_append, hf, ih, List.length_cons, Nat.add_mul]; omega
theorem flat_at {α β : Type} (f : α → List β) (k : Nat) (hf : ∀ a, (f a).length = k) : ∀ (l : List α) (i : Nat) (a : α), l[i]? = some a → ∀ j, j < k → (l.flatMap f)[i * k + j]? = (f a)[j]?
  | [], i, a, h, j, hj => by simp at h
  | b :: l, 0, a, h, j, hj => by
    obtain rfl : b = a := by simpa using h
    rw [List.flatMap_cons, List.getElem?_append_left (by rw [hf]; omega)]
    simp
  | b :: l, i + 1, a, h, j, hj => by
    rw [List.flatMap_cons, List.getElem?_append_right (by rw [hf, Nat.add_mul]; omega)]
    rw [hf, show (i + 1) * k + j - k = i * k + j by rw [Nat.add_mul]; omega]
    exact flat_at f k hf l i a (by simpa using h) j hj
theorem flat_set {α β : Type} (f : α → List β) (k : Nat) (hf : ∀ a, (f a).length = k) : ∀ (l : List α) (i : Nat) (a a' : α), l[i]? = some a → ∀ (j : Nat) (u : β), j < k → (f a).set j u = f a' → (l.flatMap f).set (i * k + j) u = (l.set i a').flatMap f
  | [], i, a, a', h, j, u, hj, hs => by simp at h
  | b :: l, 0, a, a', h, j, u, hj, hs => by
    obtain rfl : b = a := by simpa using h
    rw [List.flatMap_cons, List.set_append_left _ _ (by rw [hf]; omega)]
    simp [hs]
  | b :: l, i + 1, a, a', h, j, u, hj, hs => by
    rw [List.flatMap_cons, List.set_append_right _ _ (by rw [hf, Nat.add_mul]; omega)]
    rw [hf, show (i + 1) * k + j - k = i * k + j by rw [Nat.add_mul]; omega]
    rw [flat_set f k hf l i a a' (by simpa using h) j u hj hs]
    simp

/-! ### texts -/
def strCells (l : List ByteArray) : List Value := l.map .string
theorem strCells_len (l : List ByteArray) : (strCells l).length = l.length := by simp [strCells]

def okStrs (l : List ByteArray) : Prop := ∀ s ∈ l, s.size ≤ maxLen
theorem SlAt.of_strs {w : World} {base n : Nat} {v : Value} {l : List ByteArray} (h : w.ownsRow base 9 1 v n (strCells l)) (hn : n = l.length) (ho : okStrs l) : SlAt rpStr w v l := by
  subst hn
  obtain ⟨a, c, rfl, h1, h2⟩ := ownsRow_shape h
  refine ⟨a, c, rfl, h1, h2, fun i x hi => ?_⟩
  have hil : i < l.length := (List.getElem?_eq_some_iff.1 hi).1
  obtain ⟨b, rfl, hb, hb2⟩ := ownsRow_some h (by omega)
  refine ⟨b, 0, [.string x], rfl, rfl, fun j u hj => ?_, rfl, ho x (List.mem_of_getElem? hi)⟩
  obtain rfl : j = 0 := by have := (List.getElem?_eq_some_iff.1 hj).1; simp at this; omega
  have := h.cells (g := b) rfl i u (by simp at hj; simp [strCells, hi, hj])
  rw [Addr.add_lit] at this
  simpa [rpStr] using this

/-! ### Ins -/
def inRow (p : PIn × Value) : List Value := [.string p.1.id, .int .u32 p.1.idx, .int .u32 p.1.seq, p.2]
def insCells (ps : List (PIn × Value)) : List Value := ps.flatMap inRow
theorem inRow_len (p : PIn × Value) : (inRow p).length = 4 := rfl
theorem insCells_len (ps : List (PIn × Value)) : (insCells ps).length = ps.length * 4 := flat_len inRow 4 inRow_len ps

structure OkIn (x : PIn) : Prop where
  id : x.id.size ≤ maxLen
  idx : x.idx < 4294967296
  seq : x.seq < 4294967296
  wit : okStrs x.wit

/-- Is the block one of theirs? -/
def InsHas (v : Value) (ps : List (PIn × Value)) (b : Nat) : Prop := v.ownBlock = some b ∨ ∃ (i : Nat) (p : PIn × Value), ps[i]? = some p ∧ p.2.ownBlock = some b
section
variable {P : Program}
/-- 'append(s, x)' of one element, and where the row then lies. -/
theorem append_one {w : World} {base t ty e size bytes n : Nat} {i : TypeInfo} {z v : Value} {xs : List Value} (ht : P.underlying t = some (.slice e)) (hi : P.info? e = some i) (hz : i.zero = some z)
    (hsize : i.size = size) (hby : i.bytes = bytes) (hzs : z.cells.size = size) (hown : w.ownsRow base e size v n xs) (cs : Array Value) (hcs : cs.size = size) (h1 : ∀ u ∈ cs.toList, u.oneCell' = true)
    (hn : n + 1 ≤ maxLen) (hb : (n + 1) * bytes ≤ 140737488355328) (hbase : base ≤ w.heap.size) :
    ∃ a' c' w', (Builtin.append_ #[t, t] ty #[v, .slice (some ⟨w.heap.size, 0, none⟩) 1 1]).run P (w.alloc (.cells cs e)) = .ok (.slice a' (n + 1) c') w' ∧
      w'.ownsRow base e size (.slice a' (n + 1) c') (n + 1) (xs ++ cs.toList) ∧ Below base w w' ∧ (w.alloc (.cells cs e)).grownBy w' v.ownBlock ∧
      ((Value.slice a' (n + 1) c').ownBlock = v.ownBlock ∨ (Value.slice a' (n + 1) c').ownBlock = some (w.heap.size + 1)) := by
  obtain ⟨v', w', hr, ho, hg, hv⟩ := append_own_src (P := P) (w.alloc (.cells cs e)) base t t ty e i z size bytes ht hi hz hsize hby hzs v n xs (hown.alloc _) (.slice (some ⟨w.heap.size, 0, none⟩) 1 1) 1 cs.toList
    (Src.ofSlice _ ht ⟨w.heap.size, 0, none⟩ 1 1 cs.toList (by simp [hcs]) (fun j u hj => by
      rw [Addr.add_lit, Nat.zero_add, cell_at (heap_alloc_new w (.cells cs e))]
      simpa using hj) h1) hn hb (by simp; omega)
  obtain ⟨a', c', rfl, _, _⟩ := ownsRow_shape ho
  exact ⟨a', c', w', hr, ho, ((Below.refl base w).alloc hbase _).grown hg (by simp; omega) (fun k hk => (hown.lt k hk).1), hg, by simpa using hv⟩
end

/-! ### Outs -/
def outRow (x : POut) : List Value := [.int .i64 x.val, .string x.script]
def outsCells (l : List POut) : List Value := l.flatMap outRow
theorem outRow_len (x : POut) : (outRow x).length = 2 := rfl
theorem outsCells_len (l : List POut) : (outsCells l).length = l.length * 2 := flat_len outRow 2 outRow_len l
def OkOut (x : POut) : Prop := (-9223372036854775808 ≤ x.val ∧ x.val ≤ 9223372036854775807) ∧ x.script.size ≤ maxLen
structure OutsOwn (base : Nat) (w : World) (v : Value) (l : List POut) : Prop where
  row : w.ownsRow base 37 2 v l.length (outsCells l)
  ok : ∀ x ∈ l, OkOut x
theorem OutsOwn.at {base : Nat} {w : World} {a : Option Addr} {n c : Nat} {l : List POut} (h : OutsOwn base w (.slice a n c) l) {i : Nat} {x : POut} (hi : l[i]? = some x) :
    ∃ b, a = some ⟨b, 0, none⟩ ∧ base ≤ b ∧ b < w.heap.size ∧ w.cell? ⟨b, i * 2, none⟩ = some (.int .i64 x.val) ∧ w.cell? ⟨b, i * 2 + 1, none⟩ = some (.string x.script) := by
  obtain ⟨a', c', e, -, -⟩ := ownsRow_shape h.row
  obtain ⟨rfl, rfl, rfl⟩ : a = a' ∧ n = l.length ∧ c = c' := by simpa using e
  obtain ⟨b, rfl, h1, h2⟩ := ownsRow_some h.row (by have := (List.getElem?_eq_some_iff.1 hi).1; omega)
  refine ⟨b, rfl, h1, h2, ?_, ?_⟩
  · have := h.row.cells (g := b) rfl (i * 2 + 0) _ (flat_at outRow 2 outRow_len l i x hi 0 (by omega))
    simpa [Addr.add_lit] using this
  · have := h.row.cells (g := b) rfl (i * 2 + 1) _ (flat_at outRow 2 outRow_len l i x hi 1 (by omega))
    simpa [Addr.add_lit] using this
theorem OutsOwn.sl {base : Nat} {w : World} {v : Value} {l : List POut} (h : OutsOwn base w v l) : SlAt rpOut w v l := by
  obtain ⟨a, c, rfl, h1, h2⟩ := ownsRow_shape h.row
  refine ⟨a, c, rfl, h1, h2, fun i x hi => ?_⟩
  obtain ⟨b, rfl, hb, -, e0, e1⟩ := h.at hi
  refine ⟨b, 0, [.int .i64 x.val, .string x.script], rfl, rfl, fun j u hj => ?_, rfl, (h.ok x (List.mem_of_getElem? hi)).1, (h.ok x (List.mem_of_getElem? hi)).2⟩
  rw [show 0 + i * rpOut.size + j = i * 2 + j by simp [rpOut]]
  match j, hj with
  | 0, hj => simp at hj; subst hj; exact e0
  | 1, hj => simp at hj; subst hj; exact e1
theorem OutsOwn.kept {base : Nat} {w w' : World} {v : Value} {l : List POut} (h : OutsOwn base w v l) (hk : ∀ b, v.ownBlock = some b → w'.heap[b]? = w.heap[b]?) : OutsOwn base w' v l := ⟨ownsRow_of_block h.row hk, h.ok⟩
theorem OutsOwn.below {base : Nat} {w w' : World} {v : Value} {l : List POut} (h : OutsOwn base w v l) (hb : Below w.heap.size w w') : OutsOwn base w' v l := h.kept fun b hh => hb.block b (h.row.lt b hh).2
theorem OutsOwn.base {base base' : Nat} {w : World} {v : Value} {l : List POut} (h : OutsOwn base w v l) (hb : base' ≤ base) : OutsOwn base' w v l := ⟨ownsRow_base h.row hb, h.ok⟩
theorem outsOwn_nil (base : Nat) (w : World) : OutsOwn base w (.slice none 0 0) [] := ⟨World.ownsRow_nil _ _ _ _, fun i h => by simp at h⟩
theorem OutsOwn.set {base : Nat} {w : World} {b n c : Nat} {l : List POut} (h : OutsOwn base w (.slice (some ⟨b, 0, none⟩) n c) l) {i : Nat} {x x' : POut} (hi : l[i]? = some x) (j : Nat) (u : Value) (hj : j < 2) (hs : (outRow x).set j u = outRow x') (hok : OkOut x') :
    OutsOwn base (w.setCell ⟨b, i * 2 + j, none⟩ u) (.slice (some ⟨b, 0, none⟩) n c) (l.set i x') := by
  obtain ⟨a', c', e, -, -⟩ := ownsRow_shape h.row
  obtain ⟨-, rfl, rfl⟩ : some (⟨b, 0, none⟩ : Addr) = a' ∧ n = l.length ∧ c = c' := by simpa using e
  have hil : i < l.length := (List.getElem?_eq_some_iff.1 hi).1
  refine ⟨?_, fun y hy => ?_⟩
  · rw [List.length_set]
    have hx : outsCells (l.set i x') = (outsCells l).set (i * 2 + j) u := (flat_set outRow 2 outRow_len l i x x' hi j u hj hs).symm
    rw [hx]
    exact ownsRow_set h.row (by rw [outsCells_len]; omega) u
  · rcases List.mem_or_eq_of_mem_set hy with h1 | rfl
    · exact h.ok y h1
    · exact hok

theorem SlAt.outp {w : World} {a : Option Addr} {n c i : Nat} {xs : List POut} (h : SlAt rpOut w (.slice a n c) xs) (hi : i < n) : ∃ (b o : Nat) (x : POut), a = some ⟨b, o, none⟩ ∧ xs[i]? = some x ∧ OkOut x ∧
    w.cell? ⟨b, o + i * 2, none⟩ = some (.int .i64 x.val) ∧ w.cell? ⟨b, o + i * 2 + 1, none⟩ = some (.string x.script) := by
  obtain ⟨b, o, x, cs, h1, h2, h3, h4, h5, h6, h7⟩ := h.at hi
  subst h5
  exact ⟨b, o, x, h1, h2, ⟨h6, h7⟩, h4 0 _ rfl, h4 1 _ rfl⟩

end Go.Proofs.Ytelindgnkpfkiaa
