/-
  What holds while the document reads a transaction. Conditions: none beyond each lemma's own.
-/
import Derived.Test.YtmcknjldimnaoaaRi
import Derived.Test.YtmcknjldimnaoaaRf
namespace Go.Proofs.Ytmcknjldimnaoaa
open Go.RowKit Go.BigFrame
set_option linter.unusedVariables false
set_option linter.unusedSimpArgs false

/-- The result's box X, the state's behind it, the transaction's behind that; its rows behind these. -/
structure RQ (w : World) (X : Nat) (z : Zst) (ver lock : Nat) (va vo : Value) (xs : List PIn) (os : List POut) (wr : World) : Prop where
  bel : Below w.heap.size w wr
  x : wr.heap[X]? = some (.cells #[.int .u32 0, .slice none 0 0, .slice none 0 0, .int .u32 0] 26 (0, 0))
  box : wr.heap[X + 1]? = some (.cells #[.int .i64 z.at_, .int .i64 z.err] 76 (0, 0))
  y : wr.heap[X + 2]? = some (.cells #[.int .u32 ver, va, vo, .int .u32 lock] 26 (0, 0))
  ins : ∃ ps, xs = ps.map (·.1) ∧ InsOwn (X + 3) wr va ps ∧ ∀ k, vo.ownBlock = some k → ¬ InsHas va ps k
  outs : OutsOwn (X + 3) wr vo os
  is : X = w.heap.size
section
variable {w wr wq : World} {X ver lock : Nat} {z z' : Zst} {va vo : Value} {xs : List PIn} {os : List POut}
theorem RQ.lt (h : RQ w X z ver lock va vo xs os wr) : X + 2 < wr.heap.size := (Array.getElem?_eq_some_iff.1 h.y).1
theorem RQ.below (h : RQ w X z ver lock va vo xs os wr) (hb : Below wr.heap.size wr wq) : RQ w X z ver lock va vo xs os wq := by
  have hl := h.lt
  obtain ⟨ps, hp, h1, h2⟩ := h.ins
  exact ⟨h.bel.trans (hb.mono h.bel.size), (hb.block X (by omega)).trans h.x, (hb.block (X + 1) (by omega)).trans h.box, (hb.block (X + 2) hl).trans h.y, ⟨ps, hp, h1.below hb, h2⟩, h.outs.below hb, h.is⟩
/-- What a store in one of the boxes leaves. -/
theorem RQ.keep (h : RQ w X z ver lock va vo xs os wr) (b j : Nat) (u : Value) (hb : X ≤ b ∧ b < X + 3) : Below w.heap.size w (wr.setCell ⟨b, j, none⟩ u) ∧ (∃ ps, xs = ps.map (·.1) ∧ InsOwn (X + 3) (wr.setCell ⟨b, j, none⟩ u) va ps ∧ ∀ k, vo.ownBlock = some k → ¬ InsHas va ps k) ∧ OutsOwn (X + 3) (wr.setCell ⟨b, j, none⟩ u) vo os := by
  obtain ⟨ps, hp, h1, h2⟩ := h.ins
  exact ⟨h.bel.setCell (p := ⟨b, j, none⟩) (by have := h.is; dsimp only; omega) u, ⟨ps, hp, h1.kept3 fun k hk _ => Below.heap_setCell _ _ _ _ (by dsimp only; omega), h2⟩, h.outs.kept2 fun k hk _ => Below.heap_setCell _ _ _ _ (by dsimp only; omega)⟩
theorem RQ.setAt (h : RQ w X z ver lock va vo xs os wr) (n : Nat) : RQ w X ⟨n, z.err⟩ ver lock va vo xs os (wr.setCell ⟨X + 1, 0, none⟩ (.int .i64 n)) := by
  obtain ⟨h1, h2, h3⟩ := h.keep (X + 1) 0 (.int .i64 n) (by omega)
  exact ⟨h1, (Below.heap_setCell _ _ _ _ (by dsimp only; omega)).trans h.x, heap_setCell_at h.box, (Below.heap_setCell _ _ _ _ (by dsimp only; omega)).trans h.y, h2, h3, h.is⟩
theorem RQ.setErr (h : RQ w X z ver lock va vo xs os wr) (e : Int) : RQ w X ⟨z.at_, e⟩ ver lock va vo xs os (wr.setCell ⟨X + 1, 1, none⟩ (.int .i64 e)) := by
  obtain ⟨h1, h2, h3⟩ := h.keep (X + 1) 1 (.int .i64 e) (by omega)
  exact ⟨h1, (Below.heap_setCell _ _ _ _ (by dsimp only; omega)).trans h.x, heap_setCell_at h.box, (Below.heap_setCell _ _ _ _ (by dsimp only; omega)).trans h.y, h2, h3, h.is⟩
theorem RQ.setVer (h : RQ w X z ver lock va vo xs os wr) (n : Nat) : RQ w X z n lock va vo xs os (wr.setCell ⟨X + 2, 0, none⟩ (.int .u32 n)) := by
  obtain ⟨h1, h2, h3⟩ := h.keep (X + 2) 0 (.int .u32 n) (by omega)
  exact ⟨h1, (Below.heap_setCell _ _ _ _ (by dsimp only; omega)).trans h.x, (Below.heap_setCell _ _ _ _ (by dsimp only; omega)).trans h.box, heap_setCell_at h.y, h2, h3, h.is⟩
theorem RQ.setLock (h : RQ w X z ver lock va vo xs os wr) (n : Nat) : RQ w X z ver n va vo xs os (wr.setCell ⟨X + 2, 3, none⟩ (.int .u32 n)) := by
  obtain ⟨h1, h2, h3⟩ := h.keep (X + 2) 3 (.int .u32 n) (by omega)
  exact ⟨h1, (Below.heap_setCell _ _ _ _ (by dsimp only; omega)).trans h.x, (Below.heap_setCell _ _ _ _ (by dsimp only; omega)).trans h.box, heap_setCell_at h.y, h2, h3, h.is⟩
/-- A call's new state, stored. -/
theorem RQ.step (h : RQ w X z ver lock va vo xs os wr) (hb : Below wr.heap.size wr wq) (z' : Zst) :
    RQ w X z' ver lock va vo xs os ((wq.setCell ⟨X + 1, 0, none⟩ (.int .i64 z'.at_)).setCell ⟨X + 1, 1, none⟩ (.int .i64 z'.err)) ∧
    wq.cell? ⟨X + 1, 0, none⟩ = some (.int .i64 z.at_) ∧ wq.cell? ⟨X + 1, 1, none⟩ = some (.int .i64 z.err) ∧ wq.frozen? ⟨X + 1, 0, none⟩ = false ∧ wq.frozen? ⟨X + 1, 1, none⟩ = false := by
  have h1 := h.below hb
  exact ⟨(h1.setAt z'.at_).setErr z'.err, cell_at h1.box, cell_at h1.box, free_at h1.box, free_at h1.box⟩
theorem RQ.tx (h : RQ w X z ver lock va vo xs os wr) (hv : ver < 4294967296) (hl : lock < 4294967296) : TxOwn (X + 3) wr (.agg #[.int .u32 ver, va, vo, .int .u32 lock]) ⟨ver, xs, os, lock⟩ := by
  obtain ⟨ps, rfl, h1, h2⟩ := h.ins
  exact ⟨⟨va, vo, ps, rfl, rfl, h1, h.outs, h2⟩, hv, hl⟩
theorem RQ.ilen (h : RQ w X z ver lock va vo xs os wr) : ∃ a c, va = .slice a xs.length c ∧ xs.length ≤ c ∧ c ≤ maxLen := by
  obtain ⟨ps, rfl, h1, -⟩ := h.ins
  rw [List.length_map]
  exact ownsRow_shape h1.row
theorem RQ.olen (h : RQ w X z ver lock va vo xs os wr) : ∃ a c, vo = .slice a os.length c ∧ os.length ≤ c ∧ c ≤ maxLen := ownsRow_shape h.outs.row
/-- The Ins that a call made are stored behind its state. -/
theorem RQ.callIns {v : Value} {ps : List (PIn × Value)} (h : RQ w X z ver lock va (.slice none 0 0) xs os wr) (hb : Below wr.heap.size wr wq) (hown : InsOwn wr.heap.size wq v ps) (z' : Zst) :
    RQ w X z' ver lock v (.slice none 0 0) (ps.map (·.1)) os (((wq.setCell ⟨X + 1, 0, none⟩ (.int .i64 z'.at_)).setCell ⟨X + 1, 1, none⟩ (.int .i64 z'.err)).setCell ⟨X + 2, 1, none⟩ v) := by
  have hl := h.lt
  have hs := (h.step hb z').1
  obtain ⟨h1, -, h3⟩ := hs.keep (X + 2) 1 v (by omega)
  refine ⟨h1, (Below.heap_setCell _ _ _ _ (by dsimp only; omega)).trans hs.x, (Below.heap_setCell _ _ _ _ (by dsimp only; omega)).trans hs.box, heap_setCell_at hs.y, ⟨ps, rfl, ?_, fun k e => by cases e⟩, h3, hs.is⟩
  refine (hown.base (by omega)).kept fun k hk => ?_
  have := (hown.lt hk).1
  rw [Below.heap_setCell _ _ _ _ (by dsimp only; omega), Below.heap_setCell _ _ _ _ (by dsimp only; omega), Below.heap_setCell _ _ _ _ (by dsimp only; omega)]
/-- The Outs that a call made, behind all that was there, are stored behind its state. -/
theorem RQ.callOuts {v : Value} {l : List POut} (h : RQ w X z ver lock va vo xs os wr) (hb : Below wr.heap.size wr wq) (hown : OutsOwn wr.heap.size wq v l) (z' : Zst) :
    RQ w X z' ver lock va v xs l (((wq.setCell ⟨X + 1, 0, none⟩ (.int .i64 z'.at_)).setCell ⟨X + 1, 1, none⟩ (.int .i64 z'.err)).setCell ⟨X + 2, 2, none⟩ v) := by
  have hl := h.lt
  have hs := (h.step hb z').1
  obtain ⟨ps, rfl, h4, -⟩ := h.ins
  have h5 := h4.below hb
  have hset : ∀ k, X + 3 ≤ k → (((wq.setCell ⟨X + 1, 0, none⟩ (.int .i64 z'.at_)).setCell ⟨X + 1, 1, none⟩ (.int .i64 z'.err)).setCell ⟨X + 2, 2, none⟩ v).heap[k]? = wq.heap[k]? := fun k hk => by
    rw [Below.heap_setCell _ _ _ _ (by dsimp only; omega), Below.heap_setCell _ _ _ _ (by dsimp only; omega), Below.heap_setCell _ _ _ _ (by dsimp only; omega)]
  refine ⟨(hs.keep (X + 2) 2 v (by omega)).1, (Below.heap_setCell _ _ _ _ (by dsimp only; omega)).trans hs.x, (Below.heap_setCell _ _ _ _ (by dsimp only; omega)).trans hs.box, heap_setCell_at hs.y, ⟨ps, rfl, h5.kept3 fun k hk _ => hset k hk, fun k e hh => ?_⟩, (OutsOwn.base hown (by omega)).kept2 fun k hk _ => hset k hk, hs.is⟩
  have := (hown.row.lt k e).1
  have := (h4.lt hh).2
  omega
theorem RQ.at (h : RQ w X z ver lock va vo xs os wr) {i : Nat} {x : PIn} (hi : xs[i]? = some x) : ∃ b0 c, va = .slice (some ⟨b0, 0, none⟩) xs.length c ∧ X + 3 ≤ b0 := by
  obtain ⟨ps, rfl, h1, -⟩ := h.ins
  obtain ⟨a, c, rfl, -, -⟩ := ownsRow_shape h1.row
  obtain ⟨b, rfl, hb, -⟩ := ownsRow_some h1.row (by have := (List.getElem?_eq_some_iff.1 hi).1; rw [List.length_map] at this; omega)
  exact ⟨b, c, by rw [List.length_map], hb⟩
/-- A text is appended to an In's witness. -/
theorem RQ.app {i b0 c : Nat} {x : PIn} (h : RQ w X z ver lock (.slice (some ⟨b0, 0, none⟩) xs.length c) vo xs os wr) (hi : xs[i]? = some x) (s : ByteArray) (hs : s.size ≤ maxLen) (hn : x.wit.length ≤ 1000) :
    ∃ wa wc, wr.cell? ⟨b0, i * 4 + 3, none⟩ = some (.slice wa x.wit.length wc) ∧ wr.frozen? ⟨b0, i * 4 + 3, none⟩ = false ∧ ∃ a' c' w', (Builtin.append_ #[45, 45] 45 #[.slice wa x.wit.length wc, .slice (some ⟨wr.heap.size, 0, none⟩) 1 1]).run Try.prog (wr.alloc (.cells #[.string s] 9)) = .ok (.slice a' (x.wit.length + 1) c') w' ∧
      w'.heap[X + 2]? = wr.heap[X + 2]? ∧ w'.heap[b0]? = wr.heap[b0]? ∧ RQ w X z ver lock (.slice (some ⟨b0, 0, none⟩) xs.length c) vo (xs.set i { x with wit := x.wit ++ [s] }) os (w'.setCell ⟨b0, i * 4 + 3, none⟩ (.slice a' (x.wit.length + 1) c')) := by
  have hl := h.lt
  obtain ⟨ps, rfl, h1, h2⟩ := h.ins
  rw [List.length_map] at h1 h2 ⊢
  rw [List.getElem?_map] at hi
  obtain ⟨⟨y, wv⟩, hp, rfl⟩ := Option.map_eq_some_iff.1 hi
  obtain ⟨b1, e1, hb1, hb2, -, -, -, e3⟩ := h1.at hp
  obtain rfl : b0 = b1 := by simpa using e1
  have hw := h1.wit i _ hp
  dsimp only at hw e3 hn ⊢
  obtain ⟨wa, wc, rfl, hc1, hc2⟩ := ownsRow_shape hw
  have hokx := h1.ok i _ hp
  obtain ⟨i0, hi, hz0, hz1, hz2⟩ := info_parts info_str
  obtain ⟨a2, c2, w2, hrun, hown2, hbl2, hg2, hv2⟩ := append_one (P := Try.prog) Try.underlying45 hi hz0 hz1 hz2 rfl hw #[.string s] rfl (by simp [Value.oneCell']) (by rw [maxLen_eq]; omega) (by omega) (by omega) (ty := 45)
  have hne : ∀ g, (Value.slice wa y.wit.length wc).ownBlock = some g → g ≠ b0 := fun g e e' => h1.out i _ g hp e (by rw [e']; rfl)
  have hkeep : ∀ k, k < wr.heap.size → (Value.slice wa y.wit.length wc).ownBlock ≠ some k → w2.heap[k]? = wr.heap[k]? := fun k hk hn => by
    rw [hg2.block k (by simp; omega) (fun e => hn e.symm)]
    exact Below.heap_alloc _ _ k hk
  have hbk : ∀ k, k < X + 3 → w2.heap[k]? = wr.heap[k]? := fun k hk => hbl2.block k hk
  have hset := h1.set2 (p' := ({ y with wit := y.wit ++ [s] }, .slice a2 (y.wit.length + 1) c2)) (w' := w2) hp 3 _ (by omega) rfl hkeep (by dsimp only; rw [List.length_append]; simpa [strCells] using hown2) ⟨hokx.id, hokx.idx, hokx.seq, fun s' hs' => by
      rcases List.mem_append.1 hs' with h3 | h3
      · exact hokx.wit s' h3
      · rw [List.mem_singleton.1 h3]; exact hs⟩ (by
    rcases hv2 with e | e
    · exact .inl e
    · exact .inr (.inr ⟨_, e, by omega⟩))
  refine ⟨wa, wc, e3, ownsRow_free h1.row _, a2, c2, w2, hrun, hbk _ (by omega), hkeep b0 hb2 (fun e => hne b0 e rfl), ?_⟩
  have hsc : ∀ k, k ≠ b0 → (w2.setCell ⟨b0, i * 4 + 3, none⟩ (.slice a2 (y.wit.length + 1) c2)).heap[k]? = w2.heap[k]? := fun k hk => Below.heap_setCell _ _ _ _ hk
  refine ⟨(h.bel.trans (hbl2.mono (by have := h.is; omega))).setCell (p := ⟨b0, i * 4 + 3, none⟩) (by have := h.is; dsimp only; omega) _, (hsc X (by omega)).trans ((hbk X (by omega)).trans h.x), (hsc (X + 1) (by omega)).trans ((hbk (X + 1) (by omega)).trans h.box), (hsc (X + 2) (by omega)).trans ((hbk (X + 2) (by omega)).trans (by have := h.y; rw [List.length_map] at this; exact this)),
    ⟨_, (List.map_set (f := Prod.fst) (l := ps) (i := i) (a := ({ y with wit := y.wit ++ [s] }, .slice a2 (y.wit.length + 1) c2))).symm, hset, fun k hk hh => ?_⟩, h.outs.kept fun k hk => ?_, h.is⟩
  · have hko := (h.outs.row.lt k hk).2
    rcases hh with hh | ⟨j, q, hq, hh⟩
    · exact h2 k hk (.inl hh)
    · by_cases hij : i = j
      · subst hij
        rw [List.getElem?_set_self (List.getElem?_eq_some_iff.1 hp).1] at hq
        obtain rfl := Option.some.inj hq
        dsimp only at hh
        rcases hv2 with e | e
        · exact h2 k hk (.inr ⟨i, _, hp, e ▸ hh⟩)
        · rw [e] at hh; have := Option.some.inj hh; omega
      · rw [List.getElem?_set_ne hij] at hq
        exact h2 k hk (.inr ⟨j, q, hq, hh⟩)
  · exact (hsc k fun e => h2 k hk (.inl (by rw [e]; rfl))).trans (hkeep k (h.outs.row.lt k hk).2 fun e => h2 k hk (.inr ⟨i, _, hp, e⟩))
end
/-- The document's way with a marker. -/
theorem mark_ref {l : List UInt8} {z : Zst} (hz : z.err = 0) (hl : z.at_ < l.length) (hb : byteAt l z.at_ = 0) :
    markZ l z = (if (numZ 1 1 4 l ⟨z.at_ + 1, 0⟩).1.err = 0 ∧ (numZ 1 1 4 l ⟨z.at_ + 1, 0⟩).2 = 0 then ⟨(numZ 1 1 4 l ⟨z.at_ + 1, 0⟩).1.at_ - 1, 4⟩ else (numZ 1 1 4 l ⟨z.at_ + 1, 0⟩).1, true) := by
  unfold markZ
  rw [if_neg (by rw [hz, hb]; simp; omega)]
  by_cases h1 : z.at_ + 1 < l.length
  · obtain ⟨c, hc⟩ := drop_cons h1
    have hcb := byteAt_drop hc
    have hp : pt l (z.at_ + 1) 1 = [c] := by unfold pt; rw [hc]; rfl
    have hn : leN (pt l (z.at_ + 1) 1) = c.toNat := by rw [hp]; simp [leN]
    have hz0 : ((⟨z.at_ + 1, 0⟩ : Zst).err = 0) := rfl
    have hnl : ¬ l.length < (⟨z.at_ + 1, 0⟩ : Zst).at_ + 1 := by dsimp only; omega
    by_cases h2 : byteAt l (z.at_ + 1) = 1
    · have hy := numZ_yes (k := 1) (most := 1) (e := 4) (z := ⟨z.at_ + 1, 0⟩) hnl (by dsimp only; rw [hn]; omega) rfl
      dsimp only at hy
      rw [hn, ← hcb, h2] at hy
      rw [hy, if_neg (fun h => h.2 h2), if_neg (by simp)]
    · rw [if_pos ⟨h1, h2⟩]
      by_cases h3 : c.toNat = 0
      · have hy := numZ_yes (k := 1) (most := 1) (e := 4) (z := ⟨z.at_ + 1, 0⟩) hnl (by dsimp only; rw [hn]; omega) rfl
        dsimp only at hy
        rw [hn, h3] at hy
        rw [hy, if_pos ⟨rfl, rfl⟩]
        rfl
      · have hy := numZ_great (k := 1) (most := 1) (e := 4) (z := ⟨z.at_ + 1, 0⟩) hnl (by dsimp only; rw [hn]; omega)
        have hf : failZ ⟨z.at_ + 1, 0⟩ 4 = ⟨z.at_ + 1, 4⟩ := rfl
        rw [hf] at hy
        rw [hy, if_neg (fun h => four_ne h.1)]
  · rw [if_neg (fun h => h1 h.1)]
    have hy := numZ_short (k := 1) (most := 1) (e := 4) (l := l) (z := ⟨z.at_ + 1, 0⟩) (by dsimp only; omega)
    have hf : failZ ⟨z.at_ + 1, 0⟩ 5 = ⟨z.at_ + 1, 5⟩ := rfl
    rw [hf] at hy
    rw [hy, if_neg (fun h => five_ne h.1)]
end Go.Proofs.Ytmcknjldimnaoaa
