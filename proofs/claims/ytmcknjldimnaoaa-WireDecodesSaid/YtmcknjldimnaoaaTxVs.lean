/-
  A transaction of the call's own whose witnesses are being set anew; all other blocks stay. Conditions: those of each theorem.
-/
import Derived.Test.YtmcknjldimnaoaaTxo
namespace Go.Proofs.Ytmcknjldimnaoaa
open Go.RowKit
set_option linter.unusedVariables false
set_option linter.unusedSimpArgs false

theorem InsOwn.set2 {base : Nat} {w w' : World} {b n c : Nat} {ps : List (PIn × Value)} (h : InsOwn base w (.slice (some ⟨b, 0, none⟩) n c) ps) {i : Nat} {p p' : PIn × Value} (hi : ps[i]? = some p) (j : Nat) (u : Value) (hj : j < 4) (hs : (inRow p).set j u = inRow p')
    (hk : ∀ k, k < w.heap.size → p.2.ownBlock ≠ some k → w'.heap[k]? = w.heap[k]?)
    (hw : w'.ownsRow base 9 1 p'.2 p'.1.wit.length (strCells p'.1.wit)) (hok : OkIn p'.1) (hb : p'.2.ownBlock = p.2.ownBlock ∨ p'.2.ownBlock = none ∨ ∃ B, p'.2.ownBlock = some B ∧ w.heap.size ≤ B) :
    InsOwn base (w'.setCell ⟨b, i * 4 + j, none⟩ u) (.slice (some ⟨b, 0, none⟩) n c) (ps.set i p') := by
  obtain ⟨a', c', e, -, -⟩ := ownsRow_shape h.row
  obtain ⟨-, rfl, rfl⟩ : some (⟨b, 0, none⟩ : Addr) = a' ∧ n = ps.length ∧ c = c' := by simpa using e
  have hil : i < ps.length := (List.getElem?_eq_some_iff.1 hi).1
  have split : ∀ (k : Nat) (q : PIn × Value), (ps.set i p')[k]? = some q → (k ≠ i ∧ ps[k]? = some q) ∨ (k = i ∧ q = p') := by
    intro k q hq
    by_cases hk : k = i
    · subst hk; rw [List.getElem?_set_self hil] at hq; exact .inr ⟨rfl, by simpa using hq.symm⟩
    · rw [List.getElem?_set_ne (Ne.symm hk)] at hq; exact .inl ⟨hk, hq⟩
  have hlt : b < w.heap.size := (h.lt (b := b) (.inl rfl)).2
  have hbn : ∀ B, p'.2.ownBlock = some B → B ≠ b ∧ ∀ k q, k ≠ i → ps[k]? = some q → q.2.ownBlock ≠ some B := by
    intro B hB
    rcases hb with hb | hb | ⟨B', hB', hn⟩
    · rw [hb] at hB
      exact ⟨fun e => h.out i p B hi hB (by rw [e]; rfl), fun k q hk hq => fun e => h.apart i k p q B hi hq (Ne.symm hk) hB e⟩
    · rw [hb] at hB; cases hB
    · obtain rfl : B' = B := by rw [hB'] at hB; exact Option.some.inj hB
      exact ⟨fun e => by omega, fun k q hk hq e => by have := (h.lt (b := B') (.inr ⟨k, q, hq, e⟩)).2; omega⟩
  have hpb : p.2.ownBlock ≠ some b := fun e => h.out i p b hi e rfl
  refine ⟨?_, ?_, ?_, ?_, ?_⟩
  · rw [List.length_set]
    have hx : insCells (ps.set i p') = (insCells ps).set (i * 4 + j) u := (flat_set inRow 4 inRow_len ps i p p' hi j u hj hs).symm
    rw [hx]
    exact ownsRow_set (ownsRow_of_block h.row fun k e => by
      have : b = k := by simpa [Value.ownBlock] using e
      subst this
      exact hk b hlt hpb) (by rw [insCells_len]; omega) u
  · intro k q hq
    rcases split k q hq with ⟨hki, hq⟩ | ⟨rfl, rfl⟩
    · exact ownsRow_other (ownsRow_of_block (h.wit k q hq) fun k' e => hk k' (h.lt (.inr ⟨k, q, hq, e⟩)).2 (fun e' => h.apart i k p q k' hi hq (Ne.symm hki) e' e)) _ _ (fun e => h.out k q b hq e rfl)
    · exact ownsRow_other hw _ _ (fun e => (hbn b e).1 rfl)
  · intro k q hq
    rcases split k q hq with ⟨hk, hq⟩ | ⟨rfl, rfl⟩
    · exact h.ok k q hq
    · exact hok
  · intro k q B hq hB
    rcases split k q hq with ⟨hk, hq⟩ | ⟨rfl, rfl⟩
    · exact h.out k q B hq hB
    · intro e
      exact (hbn B hB).1 (by simpa [Value.ownBlock] using e.symm)
  · intro k l q r B hq hr hkl hB
    rcases split k q hq with ⟨hk, hq'⟩ | ⟨hk, hq'⟩ <;> rcases split l r hr with ⟨hl, hr'⟩ | ⟨hl, hr'⟩
    · exact h.apart k l q r B hq' hr' hkl hB
    · subst hr'
      exact fun e => (hbn B e).2 k q hk hq' hB
    · subst hq'
      exact (hbn B hB).2 l r hl hr'
    · omega

def setIns (t : PTx) (l : List PIn) : PTx := ⟨t.ver, l, t.outs, t.lock⟩
/-- The transaction's blocks lie from B to hi or behind wc; what isn't of them is as at wc. -/
structure VS (B hi : Nat) (va vo : Value) (t : PTx) (wc : World) (l : List PIn) (wr : World) : Prop where
  bel : Below B wc wr
  size : wc.heap.size ≤ wr.heap.size
  hic : hi ≤ wc.heap.size
  keep : ∀ b, b < wc.heap.size → ¬ (B ≤ b ∧ b < hi) → wr.heap[b]? = wc.heap[b]?
  own : ∃ ps, l = ps.map (·.1) ∧ InsOwn B wr va ps ∧ (∀ b, vo.ownBlock = some b → ¬ InsHas va ps b) ∧ ∀ b, InsHas va ps b → b < hi ∨ wc.heap.size ≤ b
  outs : OutsOwn B wr vo t.outs
  olt : ∀ b, vo.ownBlock = some b → b < hi
  nums : t.ver < 4294967296 ∧ t.lock < 4294967296
section
variable {B hi : Nat} {va vo : Value} {t : PTx} {wc wr w' : World} {l : List PIn}
theorem VS.tx (h : VS B hi va vo t wc l wr) : TxAt wr (.agg #[.int .u32 t.ver, va, vo, .int .u32 t.lock]) (setIns t l) := by
  obtain ⟨ps, rfl, h1, -, -⟩ := h.own
  exact ⟨va, vo, rfl, h1.sl, h.outs.sl, h.nums⟩
theorem VS.cell (h : VS B hi va vo t wc l wr) {X j : Nat} {u : Value} (hX : ¬ (B ≤ X ∧ X < hi)) (hc : wc.cell? ⟨X, j, none⟩ = some u) : wr.cell? ⟨X, j, none⟩ = some u := by
  rw [World.cell?_of_block (h.keep X (World.block_lt_of_cell? wc ⟨X, j, none⟩ hc) hX)]
  exact hc
/-- Later, of a transaction whose blocks lay below hi. -/
theorem VS.later {w1 : World} (h : TxOwn B w1 (.agg #[.int .u32 t.ver, va, vo, .int .u32 t.lock]) t) (hk : ∀ b, B ≤ b → b < w1.heap.size → wr.heap[b]? = w1.heap[b]?) (hs : w1.heap.size ≤ wr.heap.size) : VS B w1.heap.size va vo t wr t.ins wr := by
  obtain ⟨⟨vi, vo', ps, e, hp, h1, h2, h3⟩, h4, h5⟩ := h
  obtain ⟨rfl, rfl⟩ : va = vi ∧ vo = vo' := by simpa using e
  exact ⟨Below.refl _ _, Nat.le_refl _, hs, fun _ _ _ => rfl, ⟨ps, hp, h1.kept fun b hb => hk b (h1.lt hb).1 (h1.lt hb).2, h3, fun b hb => .inl (h1.lt hb).2⟩, h2.kept fun b hb => hk b (h2.row.lt b hb).1 (h2.row.lt b hb).2, fun b hb => (h2.row.lt b hb).2, h4, h5⟩
theorem VS.len (h : VS B hi va vo t wc l wr) : ∃ a c, va = .slice a l.length c ∧ l.length ≤ c ∧ c ≤ maxLen := by
  obtain ⟨ps, rfl, h1, -, -⟩ := h.own
  rw [List.length_map]
  exact ownsRow_shape h1.row
/-- What may be known of one In, and what becomes of it. -/
structure VSlot (B hi : Nat) (va vo : Value) (t : PTx) (wc : World) (l : List PIn) (i : Nat) (x : PIn) (b : Nat) (wv : Value) (wr : World) : Prop where
  vs : VS B hi va vo t wc l wr
  row : wr.ownsRow B 9 1 wv x.wit.length (strCells x.wit)
  ok : OkIn x
  cell : wr.cell? ⟨b, i * 4 + 3, none⟩ = some wv
  free : wr.frozen? ⟨b, i * 4 + 3, none⟩ = false
  is : b < wr.heap.size ∧ B ≤ b ∧ (b < hi ∨ wc.heap.size ≤ b) ∧ wv.ownBlock ≠ some b
  wlt : ∀ g, wv.ownBlock = some g → B ≤ g ∧ (g < hi ∨ wc.heap.size ≤ g)
  put : ∀ (l' : List ByteArray) (wv' : Value) (w' : World), (∀ k, k < wr.heap.size → wv.ownBlock ≠ some k → w'.heap[k]? = wr.heap[k]?) → Below B wr w' → wr.heap.size ≤ w'.heap.size →
    w'.ownsRow B 9 1 wv' l'.length (strCells l') → okStrs l' → (wv'.ownBlock = wv.ownBlock ∨ wv'.ownBlock = none ∨ ∃ G, wv'.ownBlock = some G ∧ wr.heap.size ≤ G) →
    VS B hi va vo t wc (l.set i { x with wit := l' }) (w'.setCell ⟨b, i * 4 + 3, none⟩ wv')
theorem VS.slot (h : VS B hi va vo t wc l wr) {i : Nat} {x : PIn} (hx : l[i]? = some x) : ∃ b wv c, va = .slice (some ⟨b, 0, none⟩) l.length c ∧ l.length ≤ c ∧ c ≤ maxLen ∧ VSlot B hi va vo t wc l i x b wv wr := by
  obtain ⟨ps, rfl, h1, h2, h3⟩ := h.own
  have hvs := h
  rw [List.getElem?_map] at hx
  obtain ⟨⟨y, wv⟩, hp, rfl⟩ := Option.map_eq_some_iff.1 hx
  obtain ⟨a, c, rfl, hc1, hc2⟩ := ownsRow_shape h1.row
  obtain ⟨b, rfl, hb1, hb2, e0, e1, e2, e3⟩ := h1.at hp
  have hw := h1.wit i _ hp
  refine ⟨b, wv, c, by rw [List.length_map], by rw [List.length_map]; exact hc1, hc2, ⟨hvs, hw, h1.ok i _ hp, e3, ownsRow_free h1.row _, ⟨hb2, hb1, h3 b (.inl rfl), fun e => h1.out i _ b hp e rfl⟩, fun g e => ⟨(hw.lt g e).1, h3 g (.inr ⟨i, _, hp, e⟩)⟩, ?_⟩⟩
  intro l' wv' w' hk hbl hsz hr hok hnb
  have hokx := h1.ok i _ hp
  have hset := h1.set2 (p' := ({ y with wit := l' }, wv')) hp 3 wv' (by omega) rfl hk hr ⟨hokx.id, hokx.idx, hokx.seq, hok⟩ hnb
  have hbb : ∀ g, wv.ownBlock = some g → g < wr.heap.size := fun g e => (hw.lt g e).2
  have hkeep : ∀ k, k < wr.heap.size → wv.ownBlock ≠ some k → k ≠ b → (w'.setCell ⟨b, i * 4 + 3, none⟩ wv').heap[k]? = wr.heap[k]? := fun k hkl hne hkb => by
    rw [Below.heap_setCell _ _ _ _ hkb]
    exact hk k hkl hne
  have hown : ∀ g, InsHas (.slice (some ⟨b, 0, none⟩) ps.length c) (ps.set i ({ y with wit := l' }, wv')) g → InsHas (.slice (some ⟨b, 0, none⟩) ps.length c) ps g ∨ wr.heap.size ≤ g := by
    rintro g (hg | ⟨k, q, hq, hg⟩)
    · exact .inl (.inl hg)
    · by_cases hki : i = k
      · subst hki
        rw [List.getElem?_set_self (List.getElem?_eq_some_iff.1 hp).1] at hq
        obtain rfl := Option.some.inj hq
        dsimp only at hg
        rcases hnb with e | e | ⟨G, e, hG⟩
        · exact .inl (.inr ⟨i, _, hp, e ▸ hg⟩)
        · rw [e] at hg; cases hg
        · rw [e] at hg; obtain rfl := Option.some.inj hg; exact .inr hG
      · rw [List.getElem?_set_ne hki] at hq
        exact .inl (.inr ⟨k, q, hq, hg⟩)
  refine ⟨(h.bel.trans hbl).setCell (p := ⟨b, i * 4 + 3, none⟩) hb1 _, by rw [World.size_setCell]; exact Nat.le_trans h.size hsz, h.hic, fun k hkl hn => ?_, ⟨_, ?_, hset, fun g hg hh => ?_, fun g hg => ?_⟩, h.outs.kept fun g hg => ?_, h.olt, h.nums⟩
  · rw [hkeep k (Nat.lt_of_lt_of_le hkl h.size) (fun e => ?_) (fun e => ?_)]
    · exact h.keep k hkl hn
    · have h4 := h3 k (.inr ⟨i, _, hp, e⟩)
      have h5 := (hw.lt k e).1
      omega
    · subst e
      have h4 := h3 k (.inl rfl)
      omega
  · rw [List.map_set]
  · rcases hown g hh with h4 | h4
    · exact h2 g hg h4
    · have := (h.outs.row.lt g hg).2; omega
  · rcases hown g hg with h4 | h4
    · exact h3 g h4
    · exact .inr (Nat.le_trans h.size h4)
  · refine hkeep g (h.outs.row.lt g hg).2 (fun e => h2 g hg (.inr ⟨i, _, hp, e⟩)) (fun e => h2 g hg (.inl (by rw [e]; rfl)))
theorem VS.tx_kept (h : VS B hi va vo t wc l wr) (hk : ∀ b, B ≤ b → b < wr.heap.size → w'.heap[b]? = wr.heap[b]?) : TxAt w' (.agg #[.int .u32 t.ver, va, vo, .int .u32 t.lock]) (setIns t l) := by
  obtain ⟨ps, rfl, h1, -, -⟩ := h.own
  exact ⟨va, vo, rfl, (h1.kept fun b hb => hk b (h1.lt hb).1 (h1.lt hb).2).sl, (h.outs.kept fun b hb => hk b (h.outs.row.lt b hb).1 (h.outs.row.lt b hb).2).sl, h.nums⟩
end
set_option maxRecDepth 100000 in
theorem open_strs {H : Type} {enc : TypeId × Value → H} {w : World} {v : Value} {d : DataW H} {ps : List MemPlace} (hv : Value.okWide Try.prog w .any 0 45 v) (h : DataW.Trod enc Try.prog w 0 (fun _ => true) true 45 v d ps) :
    ∃ l : List ByteArray, SlAt rpStr w v l := by
  obtain ⟨a, n, c, rfl⟩ := Go.WideShapes.okWide_slice Try.underlying45 hv
  obtain ⟨fuel, hf⟩ := h
  obtain ⟨l, u, e, hu⟩ := rp_of_slice (R := rpStr) Try.underlying45 (by kernel_rfl) (by decide) (fun _ _ _ => rp_of_str Try.underlying9) hf
  have e' : Value.slice a n c = u := by simpa [Value.cells] using e
  exact ⟨l, e' ▸ hu⟩
end Go.Proofs.Ytmcknjldimnaoaa
