/-
  TxGrants: the walk. Conditions: no more than a thousand Outs are needed of nobody.
-/
import Derived.Test.YtjbpaknjiplakaaTxQ
import Derived.Test.YtjbpaknjiplakaaInv
namespace Go.Proofs.Ytjbpaknjiplakaa
open Go.RowKit Go.BigFrame
set_option linter.unusedVariables false
set_option linter.unusedSimpArgs false

theorem or_ne {p q : Prop} (h : p ∨ q) (hn : ¬ p) : q := h.resolve_left hn
theorem op_run {P : Program} {o : Oper} {a : Act} {w w' : World} {v : Value} {K : Act → World → Prop} {Q : Exit → Act → World → Prop} (hrun : (execOp a.eval o).run P w = .ok (.value v) w') (hK : K (a.put o.dst v) w') : o.wp P a w K Q := by
  unfold Oper.wp
  rw [hrun]
  exact hK

/-- What holds while the wanted grant is being built, where just the operations of L have been run. -/
structure GI (w0 : World) (ht : Int) (va : Value) (l : List POut) (L : Nat → Prop) (x15 x16 x17 x18 x19 x20 x21 x22 x23 x24 x6 : Value) (wr : World) : Prop where
  bel : Below w0.heap.size w0 wr
  g0 : L 0 → ∃ b, x15 = .slice (some ⟨b, 0, none⟩) 32 32 ∧ wr.heap[b]? = some (.cells (Array.replicate 32 (.int .u8 0)) 5 (0, 0))
  g1 : L 1 → x16 = .string zeros32
  g2 : L 2 → x17 = .agg #[.string zeros32, .int .u32 4294967295]
  g3 : L 3 → x18 = .agg #[.string zeros32, .int .u32 4294967295, .int .u32 4294967295, .slice none 0 0]
  g4 : L 4 → ∃ b, w0.heap.size ≤ b ∧ x19 = .slice (some ⟨b, 0, none⟩) 1 1 ∧ wr.heap[b]? = some (.cells #[.string zeros32, .int .u32 4294967295, .int .u32 4294967295, .slice none 0 0] 43 (0, 0))
  g5 : L 5 → x20 = va
  g6 : L 6 → OutsOwn w0.heap.size wr x21 l
  g7 : L 7 → x22 = .int .i64 ht
  g8 : L 8 → x23 = .int .u32 (ht % 4294967296)
  g9 : L 9 → x24 = .agg #[.int .u32 2, x19, x21, x23]
  g10 : L 10 → ∃ p, w0.heap.size ≤ p ∧ x6 = .pointer (some ⟨p, 0, none⟩) ∧ wr.heap[p]? = some (.cells #[.int .u32 0, .slice none 0 0, .slice none 0 0, .int .u32 0] 26 (0, 0))
  ne4 : L 4 → L 10 → ∀ b p, x19.ownBlock = some b → x6 = .pointer (some ⟨p, 0, none⟩) → b ≠ p
  ne6 : L 6 → L 10 → ∀ b p, x21.ownBlock = some b → x6 = .pointer (some ⟨p, 0, none⟩) → b ≠ p
  ne46 : L 4 → L 6 → ∀ b k, x19.ownBlock = some b → x21.ownBlock = some k → k ≠ b
section
variable {w0 wr : World} {ht : Int} {va : Value} {l : List POut} {L : Nat → Prop} {x15 x16 x17 x18 x19 x20 x21 x22 x23 x24 x6 : Value}
theorem GI.next {w' : World} (h : GI w0 ht va l L x15 x16 x17 x18 x19 x20 x21 x22 x23 x24 x6 wr) (hb : Below wr.heap.size wr w') : GI w0 ht va l L x15 x16 x17 x18 x19 x20 x21 x22 x23 x24 x6 w' :=
  ⟨h.bel.trans (hb.mono h.bel.size), fun e => let ⟨b, e1, e2⟩ := h.g0 e; ⟨b, e1, (hb.block _ (Array.getElem?_eq_some_iff.1 e2).1).trans e2⟩, h.g1, h.g2, h.g3,
    fun e => let ⟨b, e0, e1, e2⟩ := h.g4 e; ⟨b, e0, e1, (hb.block _ (Array.getElem?_eq_some_iff.1 e2).1).trans e2⟩, h.g5, fun e => (h.g6 e).below hb, h.g7, h.g8, h.g9,
    fun e => let ⟨b, e0, e1, e2⟩ := h.g10 e; ⟨b, e0, e1, (hb.block _ (Array.getElem?_eq_some_iff.1 e2).1).trans e2⟩, h.ne4, h.ne6, h.ne46⟩
theorem ptr_inj {b p : Nat} (h : (Value.pointer (some ⟨b, 0, none⟩)) = .pointer (some ⟨p, 0, none⟩)) : b = p := by
  injection h with h; injection h with h; injection h
theorem GI.t0 (h : GI w0 ht va l L x15 x16 x17 x18 x19 x20 x21 x22 x23 x24 x6 wr) : GI w0 ht va l (fun j => j = 0 ∨ L j) (.slice (some ⟨wr.heap.size, 0, none⟩) 32 32) x16 x17 x18 x19 x20 x21 x22 x23 x24 x6 (wr.alloc (.cells (Array.replicate 32 (.int .u8 0)) 5)) := by
  have hb : Below wr.heap.size wr (wr.alloc (.cells (Array.replicate 32 (.int .u8 0)) 5)) := (Below.refl _ _).alloc (Nat.le_refl _) _
  have h' := h.next hb
  exact ⟨h'.bel, fun _ => ⟨_, rfl, heap_alloc_new wr _⟩, fun e => h'.g1 (or_ne e (by decide)), fun e => h'.g2 (or_ne e (by decide)), fun e => h'.g3 (or_ne e (by decide)), fun e => h'.g4 (or_ne e (by decide)), fun e => h'.g5 (or_ne e (by decide)), fun e => h'.g6 (or_ne e (by decide)), fun e => h'.g7 (or_ne e (by decide)), fun e => h'.g8 (or_ne e (by decide)), fun e => h'.g9 (or_ne e (by decide)), fun e => h'.g10 (or_ne e (by decide)), fun e e' => h'.ne4 (or_ne e (by decide)) (or_ne e' (by decide)), fun e e' => h'.ne6 (or_ne e (by decide)) (or_ne e' (by decide)), fun e e' => h'.ne46 (or_ne e (by decide)) (or_ne e' (by decide))⟩
theorem GI.t1 (h : GI w0 ht va l L x15 x16 x17 x18 x19 x20 x21 x22 x23 x24 x6 wr) : GI w0 ht va l (fun j => j = 1 ∨ L j) x15 (.string zeros32) x17 x18 x19 x20 x21 x22 x23 x24 x6 wr := by
  have h' := h
  exact ⟨h'.bel, fun e => h'.g0 (or_ne e (by decide)), fun _ => rfl, fun e => h'.g2 (or_ne e (by decide)), fun e => h'.g3 (or_ne e (by decide)), fun e => h'.g4 (or_ne e (by decide)), fun e => h'.g5 (or_ne e (by decide)), fun e => h'.g6 (or_ne e (by decide)), fun e => h'.g7 (or_ne e (by decide)), fun e => h'.g8 (or_ne e (by decide)), fun e => h'.g9 (or_ne e (by decide)), fun e => h'.g10 (or_ne e (by decide)), fun e e' => h'.ne4 (or_ne e (by decide)) (or_ne e' (by decide)), fun e e' => h'.ne6 (or_ne e (by decide)) (or_ne e' (by decide)), fun e e' => h'.ne46 (or_ne e (by decide)) (or_ne e' (by decide))⟩
theorem GI.t2 (h : GI w0 ht va l L x15 x16 x17 x18 x19 x20 x21 x22 x23 x24 x6 wr) : GI w0 ht va l (fun j => j = 2 ∨ L j) x15 x16 (.agg #[.string zeros32, .int .u32 4294967295]) x18 x19 x20 x21 x22 x23 x24 x6 wr := by
  have h' := h
  exact ⟨h'.bel, fun e => h'.g0 (or_ne e (by decide)), fun e => h'.g1 (or_ne e (by decide)), fun _ => rfl, fun e => h'.g3 (or_ne e (by decide)), fun e => h'.g4 (or_ne e (by decide)), fun e => h'.g5 (or_ne e (by decide)), fun e => h'.g6 (or_ne e (by decide)), fun e => h'.g7 (or_ne e (by decide)), fun e => h'.g8 (or_ne e (by decide)), fun e => h'.g9 (or_ne e (by decide)), fun e => h'.g10 (or_ne e (by decide)), fun e e' => h'.ne4 (or_ne e (by decide)) (or_ne e' (by decide)), fun e e' => h'.ne6 (or_ne e (by decide)) (or_ne e' (by decide)), fun e e' => h'.ne46 (or_ne e (by decide)) (or_ne e' (by decide))⟩
theorem GI.t3 (h : GI w0 ht va l L x15 x16 x17 x18 x19 x20 x21 x22 x23 x24 x6 wr) : GI w0 ht va l (fun j => j = 3 ∨ L j) x15 x16 x17 (.agg #[.string zeros32, .int .u32 4294967295, .int .u32 4294967295, .slice none 0 0]) x19 x20 x21 x22 x23 x24 x6 wr := by
  have h' := h
  exact ⟨h'.bel, fun e => h'.g0 (or_ne e (by decide)), fun e => h'.g1 (or_ne e (by decide)), fun e => h'.g2 (or_ne e (by decide)), fun _ => rfl, fun e => h'.g4 (or_ne e (by decide)), fun e => h'.g5 (or_ne e (by decide)), fun e => h'.g6 (or_ne e (by decide)), fun e => h'.g7 (or_ne e (by decide)), fun e => h'.g8 (or_ne e (by decide)), fun e => h'.g9 (or_ne e (by decide)), fun e => h'.g10 (or_ne e (by decide)), fun e e' => h'.ne4 (or_ne e (by decide)) (or_ne e' (by decide)), fun e e' => h'.ne6 (or_ne e (by decide)) (or_ne e' (by decide)), fun e e' => h'.ne46 (or_ne e (by decide)) (or_ne e' (by decide))⟩
theorem GI.t4 (h : GI w0 ht va l L x15 x16 x17 x18 x19 x20 x21 x22 x23 x24 x6 wr) (h9 : ¬ L 9) : GI w0 ht va l (fun j => j = 4 ∨ L j) x15 x16 x17 x18 (.slice (some ⟨wr.heap.size, 0, none⟩) 1 1) x20 x21 x22 x23 x24 x6 (wr.alloc (.cells #[.string zeros32, .int .u32 4294967295, .int .u32 4294967295, .slice none 0 0] 43)) := by
  have hb : Below wr.heap.size wr (wr.alloc (.cells #[.string zeros32, .int .u32 4294967295, .int .u32 4294967295, .slice none 0 0] 43)) := (Below.refl _ _).alloc (Nat.le_refl _) _
  have h' := h.next hb
  exact ⟨h'.bel, fun e => h'.g0 (or_ne e (by decide)), fun e => h'.g1 (or_ne e (by decide)), fun e => h'.g2 (or_ne e (by decide)), fun e => h'.g3 (or_ne e (by decide)), fun _ => ⟨_, h.bel.size, rfl, heap_alloc_new wr _⟩, fun e => h'.g5 (or_ne e (by decide)), fun e => h'.g6 (or_ne e (by decide)), fun e => h'.g7 (or_ne e (by decide)), fun e => h'.g8 (or_ne e (by decide)), fun e => absurd (or_ne e (by decide)) h9, fun e => h'.g10 (or_ne e (by decide)), fun _ e' b p hb hp hbp => by
    obtain ⟨q, -, e1, e2⟩ := h.g10 (or_ne e' (by decide))
    have hq := ptr_inj (e1.symm.trans hp)
    have hlt := (Array.getElem?_eq_some_iff.1 e2).1
    have : wr.heap.size = b := Option.some.inj hb
    omega, fun e e' => h'.ne6 (or_ne e (by decide)) (or_ne e' (by decide)), fun _ e' b k hb hk hkb => by
    have := ((h.g6 (or_ne e' (by decide))).row.lt k hk).2
    have : wr.heap.size = b := Option.some.inj hb
    omega⟩
theorem GI.t5 (h : GI w0 ht va l L x15 x16 x17 x18 x19 x20 x21 x22 x23 x24 x6 wr) : GI w0 ht va l (fun j => j = 5 ∨ L j) x15 x16 x17 x18 x19 (va) x21 x22 x23 x24 x6 wr := by
  have h' := h
  exact ⟨h'.bel, fun e => h'.g0 (or_ne e (by decide)), fun e => h'.g1 (or_ne e (by decide)), fun e => h'.g2 (or_ne e (by decide)), fun e => h'.g3 (or_ne e (by decide)), fun e => h'.g4 (or_ne e (by decide)), fun _ => rfl, fun e => h'.g6 (or_ne e (by decide)), fun e => h'.g7 (or_ne e (by decide)), fun e => h'.g8 (or_ne e (by decide)), fun e => h'.g9 (or_ne e (by decide)), fun e => h'.g10 (or_ne e (by decide)), fun e e' => h'.ne4 (or_ne e (by decide)) (or_ne e' (by decide)), fun e e' => h'.ne6 (or_ne e (by decide)) (or_ne e' (by decide)), fun e e' => h'.ne46 (or_ne e (by decide)) (or_ne e' (by decide))⟩
theorem GI.t6 (h : GI w0 ht va l L x15 x16 x17 x18 x19 x20 x21 x22 x23 x24 x6 wr) (h9 : ¬ L 9) {v' : Value} {w' : World} (ho : OutsOwn wr.heap.size w' v' l) (hb : Below wr.heap.size wr w') : GI w0 ht va l (fun j => j = 6 ∨ L j) x15 x16 x17 x18 x19 x20 (v') x22 x23 x24 x6 w' := by
  have h' := h.next hb
  exact ⟨h'.bel, fun e => h'.g0 (or_ne e (by decide)), fun e => h'.g1 (or_ne e (by decide)), fun e => h'.g2 (or_ne e (by decide)), fun e => h'.g3 (or_ne e (by decide)), fun e => h'.g4 (or_ne e (by decide)), fun e => h'.g5 (or_ne e (by decide)), fun _ => ho.base h.bel.size, fun e => h'.g7 (or_ne e (by decide)), fun e => h'.g8 (or_ne e (by decide)), fun e => absurd (or_ne e (by decide)) h9, fun e => h'.g10 (or_ne e (by decide)), fun e e' => h'.ne4 (or_ne e (by decide)) (or_ne e' (by decide)), fun _ e' b p hb hp hbp => by
    obtain ⟨q, -, e1, e2⟩ := h.g10 (or_ne e' (by decide))
    have hq := ptr_inj (e1.symm.trans hp)
    have hlt := (Array.getElem?_eq_some_iff.1 e2).1
    have := (ho.row.lt b hb).1
    omega, fun e _ b k hb hk hkb => by
    obtain ⟨q, -, e1, e2⟩ := h.g4 (or_ne e (by decide))
    have hlt := (Array.getElem?_eq_some_iff.1 e2).1
    rw [e1] at hb
    have hq : q = b := Option.some.inj hb
    have := (ho.row.lt k hk).1
    omega⟩
theorem GI.t7 (h : GI w0 ht va l L x15 x16 x17 x18 x19 x20 x21 x22 x23 x24 x6 wr) : GI w0 ht va l (fun j => j = 7 ∨ L j) x15 x16 x17 x18 x19 x20 x21 (.int .i64 ht) x23 x24 x6 wr := by
  have h' := h
  exact ⟨h'.bel, fun e => h'.g0 (or_ne e (by decide)), fun e => h'.g1 (or_ne e (by decide)), fun e => h'.g2 (or_ne e (by decide)), fun e => h'.g3 (or_ne e (by decide)), fun e => h'.g4 (or_ne e (by decide)), fun e => h'.g5 (or_ne e (by decide)), fun e => h'.g6 (or_ne e (by decide)), fun _ => rfl, fun e => h'.g8 (or_ne e (by decide)), fun e => h'.g9 (or_ne e (by decide)), fun e => h'.g10 (or_ne e (by decide)), fun e e' => h'.ne4 (or_ne e (by decide)) (or_ne e' (by decide)), fun e e' => h'.ne6 (or_ne e (by decide)) (or_ne e' (by decide)), fun e e' => h'.ne46 (or_ne e (by decide)) (or_ne e' (by decide))⟩
theorem GI.t8 (h : GI w0 ht va l L x15 x16 x17 x18 x19 x20 x21 x22 x23 x24 x6 wr) (h9 : ¬ L 9) : GI w0 ht va l (fun j => j = 8 ∨ L j) x15 x16 x17 x18 x19 x20 x21 x22 (.int .u32 (ht % 4294967296)) x24 x6 wr := by
  have h' := h
  exact ⟨h'.bel, fun e => h'.g0 (or_ne e (by decide)), fun e => h'.g1 (or_ne e (by decide)), fun e => h'.g2 (or_ne e (by decide)), fun e => h'.g3 (or_ne e (by decide)), fun e => h'.g4 (or_ne e (by decide)), fun e => h'.g5 (or_ne e (by decide)), fun e => h'.g6 (or_ne e (by decide)), fun e => h'.g7 (or_ne e (by decide)), fun _ => rfl, fun e => absurd (or_ne e (by decide)) h9, fun e => h'.g10 (or_ne e (by decide)), fun e e' => h'.ne4 (or_ne e (by decide)) (or_ne e' (by decide)), fun e e' => h'.ne6 (or_ne e (by decide)) (or_ne e' (by decide)), fun e e' => h'.ne46 (or_ne e (by decide)) (or_ne e' (by decide))⟩
theorem GI.t9 (h : GI w0 ht va l L x15 x16 x17 x18 x19 x20 x21 x22 x23 x24 x6 wr) : GI w0 ht va l (fun j => j = 9 ∨ L j) x15 x16 x17 x18 x19 x20 x21 x22 x23 (.agg #[.int .u32 2, x19, x21, x23]) x6 wr := by
  have h' := h
  exact ⟨h'.bel, fun e => h'.g0 (or_ne e (by decide)), fun e => h'.g1 (or_ne e (by decide)), fun e => h'.g2 (or_ne e (by decide)), fun e => h'.g3 (or_ne e (by decide)), fun e => h'.g4 (or_ne e (by decide)), fun e => h'.g5 (or_ne e (by decide)), fun e => h'.g6 (or_ne e (by decide)), fun e => h'.g7 (or_ne e (by decide)), fun e => h'.g8 (or_ne e (by decide)), fun _ => rfl, fun e => h'.g10 (or_ne e (by decide)), fun e e' => h'.ne4 (or_ne e (by decide)) (or_ne e' (by decide)), fun e e' => h'.ne6 (or_ne e (by decide)) (or_ne e' (by decide)), fun e e' => h'.ne46 (or_ne e (by decide)) (or_ne e' (by decide))⟩
theorem GI.t10 (h : GI w0 ht va l L x15 x16 x17 x18 x19 x20 x21 x22 x23 x24 x6 wr) : GI w0 ht va l (fun j => j = 10 ∨ L j) x15 x16 x17 x18 x19 x20 x21 x22 x23 x24 (.pointer (some ⟨wr.heap.size, 0, none⟩)) (wr.alloc (.cells #[.int .u32 0, .slice none 0 0, .slice none 0 0, .int .u32 0] 26)) := by
  have hb : Below wr.heap.size wr (wr.alloc (.cells #[.int .u32 0, .slice none 0 0, .slice none 0 0, .int .u32 0] 26)) := (Below.refl _ _).alloc (Nat.le_refl _) _
  have h' := h.next hb
  exact ⟨h'.bel, fun e => h'.g0 (or_ne e (by decide)), fun e => h'.g1 (or_ne e (by decide)), fun e => h'.g2 (or_ne e (by decide)), fun e => h'.g3 (or_ne e (by decide)), fun e => h'.g4 (or_ne e (by decide)), fun e => h'.g5 (or_ne e (by decide)), fun e => h'.g6 (or_ne e (by decide)), fun e => h'.g7 (or_ne e (by decide)), fun e => h'.g8 (or_ne e (by decide)), fun e => h'.g9 (or_ne e (by decide)), fun _ => ⟨_, h.bel.size, rfl, heap_alloc_new wr _⟩, fun e _ b p hb hp hbp => by
    obtain ⟨q, -, e1, e2⟩ := h.g4 (or_ne e (by decide))
    have hq := ptr_inj hp
    have hlt := (Array.getElem?_eq_some_iff.1 e2).1
    rw [e1] at hb
    have : q = b := Option.some.inj hb
    omega, fun e _ b p hb hp hbp => by
    have hq := ptr_inj hp
    have := ((h.g6 (or_ne e (by decide))).row.lt b hb).2
    omega, fun e e' => h'.ne46 (or_ne e (by decide)) (or_ne e' (by decide))⟩
end

/-- The wanted grant stands in a box of its own. -/
def FinG (w0 : World) (ht : Int) (l : List POut) (x6 : Value) (wr : World) : Prop := Below w0.heap.size w0 wr ∧ ∃ p a b c, w0.heap.size ≤ p ∧ x6 = .pointer (some ⟨p, 0, none⟩) ∧
  wr.heap[p]? = some (.cells #[.int .u32 2, .slice (some ⟨b, 0, none⟩) 1 1, .slice a l.length c, .int .u32 (ht % 4294967296)] 26 (0, 0)) ∧ TxOwn w0.heap.size wr (.agg #[.int .u32 2, .slice (some ⟨b, 0, none⟩) 1 1, .slice a l.length c, .int .u32 (ht % 4294967296)]) (grantTx ht l)

theorem fin_of {w0 wr w4 : World} {ht : Int} {l : List POut} {p b c : Nat} {a : Option Addr} (hbel : Below w0.heap.size w0 w4) (hp : w0.heap.size ≤ p)
    (hx : wr.heap[b]? = some (.cells #[.string zeros32, .int .u32 4294967295, .int .u32 4294967295, .slice none 0 0] 43 (0, 0))) (hbb : w0.heap.size ≤ b) (hout : OutsOwn w0.heap.size wr (.slice a l.length c) l)
    (hn1 : b ≠ p) (hn2 : ∀ k, (Value.slice a l.length c).ownBlock = some k → k ≠ p) (hn3 : ∀ k, (Value.slice a l.length c).ownBlock = some k → k ≠ b) (hkeep : ∀ k, k ≠ p → w4.heap[k]? = wr.heap[k]?)
    (hz : w4.heap[p]? = some (.cells #[.int .u32 2, .slice (some ⟨b, 0, none⟩) 1 1, .slice a l.length c, .int .u32 (ht % 4294967296)] 26 (0, 0))) : FinG w0 ht l (.pointer (some ⟨p, 0, none⟩)) w4 := by
  have hins : InsOwn w0.heap.size w4 (.slice (some ⟨b, 0, none⟩) 1 1) [(⟨zeros32, 4294967295, 4294967295, []⟩, .slice none 0 0)] := by
    refine insOwn_one rfl hbb ?_ ⟨by rw [maxLen_eq]; show zeros32.size ≤ _; rw [zeros32_size]; omega, by show 4294967295 < 4294967296; omega, by show 4294967295 < 4294967296; omega, fun s hs => by simp at hs⟩
    rw [hkeep b hn1]
    exact hx
  have houts : OutsOwn w0.heap.size w4 (.slice a l.length c) l := hout.kept fun k hk => hkeep k (hn2 k hk)
  refine ⟨hbel, p, a, b, c, hp, rfl, hz, ⟨⟨_, _, _, ?_, rfl, hins, houts, fun k hk hh => ?_⟩, by show 2 < 4294967296; omega, by show (ht % 4294967296).toNat < _; omega⟩⟩
  · show _ = Value.agg #[.int .u32 2, _, _, .int .u32 ((ht % 4294967296).toNat : Int)]
    rw [Int.toNat_of_nonneg (by omega)]
  · rcases hh with hh | ⟨i, q, hq, hh⟩
    · exact hn3 k hk (Option.some.inj hh).symm
    · match i, hq with
      | 0, hq => obtain rfl := Option.some.inj hq; cases hh
theorem mk32 (w : World) : (Instr.makeSlice 49 (.int .i64 32) (.int .i64 32)).run Try.prog w = .ok (.slice (some ⟨w.heap.size, 0, none⟩) 32 32) (w.alloc (.cells (Array.replicate 32 (.int .u8 0)) 5)) := by kernel_rfl
theorem conv32 {w : World} {b : Nat} (h : w.heap[b]? = some (.cells (Array.replicate 32 (.int .u8 0)) 5 (0, 0))) : (convert 49 9 (.slice (some ⟨b, 0, none⟩) 32 32)).run Try.prog w = .ok (.string zeros32) w :=
  convert_bytes (base := 0) (xs := List.replicate 32 0) ⟨by simp [bytesOf], .inr ⟨b, 32, _, rfl, Nat.zero_le _, h, Nat.le_refl _, by decide, rfl, rfl⟩⟩
theorem outs_src {base : Nat} {w w' : World} {a : Option Addr} {n c : Nat} {l : List POut} (h : OutsOwn base w (.slice a n c) l) (hb : Below w.heap.size w w') : Src Try.prog 2 24 (.slice a n c) n (outsCells l) w' := by
  have hn : n = l.length := by
    obtain ⟨a', c', e, -, -⟩ := ownsRow_shape h.row
    simp at e
    exact e.2.1
  rcases h.row.2 with ⟨e, h0⟩ | ⟨g, cap, cur, e, h1, h2, h3, h4, h5, h6⟩
  · obtain ⟨rfl, rfl, rfl⟩ : a = none ∧ n = 0 ∧ c = 0 := by simpa using e
    have : l = [] := List.eq_nil_of_length_eq_zero h0
    subst this
    exact Src.ofNil _ Try.underlying24 0
  · obtain ⟨rfl, -, rfl⟩ : a = some ⟨g, 0, none⟩ ∧ n = l.length ∧ c = cap := by simpa using e
    subst hn
    refine Src.ofSlice _ Try.underlying24 ⟨g, 0, none⟩ _ _ (outsCells l) (outsCells_len l) (fun j u hj => below_cells hb _ _ ?_) (outs_oneCell l)
    exact h.row.cells (g := g) rfl j u hj

theorem GI.cps0 {w0 wr : World} {ht : Int} {va : Value} {l : List POut} {L : Nat → Prop} {x15 x16 x17 x18 x19 x20 x21 x22 x23 x24 x6 : Value} (h : GI w0 ht va l L x15 x16 x17 x18 x19 x20 x21 x22 x23 x24 x6 wr) (hL : L 0) {G : Prop} (k : ∀ b, x15 = .slice (some ⟨b, 0, none⟩) 32 32 → (convert 49 9 (.slice (some ⟨b, 0, none⟩) 32 32)).run Try.prog wr = .ok (.string zeros32) wr → G) : G :=
  let ⟨b, e, hb⟩ := h.g0 hL; k b e (conv32 hb)
theorem app_cps {base : Nat} {w2 wr : World} {ao : Option Addr} {co : Nat} {l : List POut} (hout : OutsOwn base w2 (.slice ao l.length co) l) (hb : Below w2.heap.size w2 wr) (hl : l.length ≤ 12) {G : Prop}
    (k : ∀ v' w', (Builtin.append_ #[24, 24] 24 #[.slice none 0 0, .slice ao l.length co]).run Try.prog wr = .ok v' w' → OutsOwn wr.heap.size w' v' l → Below wr.heap.size wr w' → G) : G := by
  obtain ⟨i0, hi, hz0, hz1, hz2⟩ := info_parts info_out
  have hsrc := outs_src hout hb
  obtain ⟨v', w', hrun, hown, hg, -⟩ := append_own_src (P := Try.prog) wr wr.heap.size 24 24 24 52 i0 _ 2 24 Try.underlying24 hi hz0 hz1 hz2 rfl _ 0 [] (World.ownsRow_nil _ _ _ _) (.slice ao l.length co) l.length (outsCells l) hsrc (by rw [maxLen_eq]; omega) (by omega) (Nat.le_refl _)
  rw [Nat.zero_add, List.nil_append] at hown
  exact k v' w' hrun ⟨hown, hout.ok⟩ ((Below.refl _ _).grown hg (Nat.le_refl _) (fun k h => by cases h))
theorem GI.cps11 {w0 wr : World} {ht : Int} {va : Value} {l : List POut} {L : Nat → Prop} {x15 x16 x17 x18 x19 x20 x21 x22 x23 x24 x6 : Value} (h : GI w0 ht va l L x15 x16 x17 x18 x19 x20 x21 x22 x23 x24 x6 wr) (hL : ∀ j, j < 11 → L j) {G : Prop}
    (k : ∀ p b ao co, x6 = .pointer (some ⟨p, 0, none⟩) → x24 = .agg #[.int .u32 2, .slice (some ⟨b, 0, none⟩) 1 1, .slice ao l.length co, .int .u32 (ht % 4294967296)] →
      wr.cell? ⟨p, 0, none⟩ = some (.int .u32 0) → wr.cell? ⟨p, 1, none⟩ = some (.slice none 0 0) → wr.cell? ⟨p, 2, none⟩ = some (.slice none 0 0) → wr.cell? ⟨p, 3, none⟩ = some (.int .u32 0) →
      wr.frozen? ⟨p, 0, none⟩ = false → wr.frozen? ⟨p, 1, none⟩ = false → wr.frozen? ⟨p, 2, none⟩ = false → wr.frozen? ⟨p, 3, none⟩ = false →
      Hid (∀ w4, w4 = ((((wr.setCell ⟨p, 0, none⟩ (.int .u32 2)).setCell ⟨p, 1, none⟩ (.slice (some ⟨b, 0, none⟩) 1 1)).setCell ⟨p, 2, none⟩ (.slice ao l.length co)).setCell ⟨p, 3, none⟩ (.int .u32 (ht % 4294967296))) → FinG w0 ht l (.pointer (some ⟨p, 0, none⟩)) w4) → G) : G := by
  obtain ⟨p, hp, rfl, hz⟩ := h.g10 (hL 10 (by decide))
  obtain ⟨b, hbb, rfl, hx⟩ := h.g4 (hL 4 (by decide))
  have hout := h.g6 (hL 6 (by decide))
  obtain ⟨ao, co, rfl, -, -⟩ := ownsRow_shape hout.row
  have hx8 := h.g8 (hL 8 (by decide))
  subst hx8
  have hx9 := h.g9 (hL 9 (by decide))
  have hn1 := h.ne4 (hL 4 (by decide)) (hL 10 (by decide)) b p rfl rfl
  have hn2 := fun k hk => h.ne6 (hL 6 (by decide)) (hL 10 (by decide)) k p hk rfl
  have hn3 := fun k hk => h.ne46 (hL 4 (by decide)) (hL 6 (by decide)) b k rfl hk
  refine k p b ao co rfl hx9 (cell_at hz) (cell_at hz) (cell_at hz) (cell_at hz) (free_at hz) (free_at hz) (free_at hz) (free_at hz) (Lib.hid fun w4 hw4 => ?_)
  subst hw4
  have q1 := heap_setCell_at (j := 0) (u := .int .u32 2) hz
  have q2 := heap_setCell_at (j := 1) (u := .slice (some ⟨b, 0, none⟩) 1 1) q1
  have q3 := heap_setCell_at (j := 2) (u := .slice ao l.length co) q2
  have q4 := heap_setCell_at (j := 3) (u := .int .u32 (ht % 4294967296)) q3
  have hkeep : ∀ k, k ≠ p → ((((wr.setCell ⟨p, 0, none⟩ (.int .u32 2)).setCell ⟨p, 1, none⟩ (.slice (some ⟨b, 0, none⟩) 1 1)).setCell ⟨p, 2, none⟩ (.slice ao l.length co)).setCell ⟨p, 3, none⟩ (.int .u32 (ht % 4294967296))).heap[k]? = wr.heap[k]? := fun k hk => by
    rw [Below.heap_setCell _ _ _ _ hk, Below.heap_setCell _ _ _ _ hk, Below.heap_setCell _ _ _ _ hk, Below.heap_setCell _ _ _ _ hk]
  have hbel : Below w0.heap.size w0 ((((wr.setCell ⟨p, 0, none⟩ (.int .u32 2)).setCell ⟨p, 1, none⟩ (.slice (some ⟨b, 0, none⟩) 1 1)).setCell ⟨p, 2, none⟩ (.slice ao l.length co)).setCell ⟨p, 3, none⟩ (.int .u32 (ht % 4294967296))) :=
    (((h.bel.setCell (p := ⟨p, 0, none⟩) hp _).setCell (p := ⟨p, 1, none⟩) hp _).setCell (p := ⟨p, 2, none⟩) hp _).setCell (p := ⟨p, 3, none⟩) hp _
  exact fin_of hbel hp hx hbb hout hn1 hn2 hn3 hkeep q4
end Go.Proofs.Ytjbpaknjiplakaa
