/-
  TxCopies: what holds while a transaction's own rows are being overwritten; a transaction as what an operation made. Conditions: those of each theorem.
-/
import Derived.Test.YtjbpaknjiplakaaTxJ
import Derived.Test.YtjbpaknjiplakaaTxX
namespace Go.Proofs.Ytjbpaknjiplakaa
open Go.RowKit Go.BigFrame
set_option linter.unusedVariables false
set_option linter.unusedSimpArgs false

theorem TxOwn.kept2 {base : Nat} {w w' : World} {v : Value} {t : PTx} (h : TxOwn base w v t) (hk : ∀ b, base ≤ b → b < w.heap.size → w'.heap[b]? = w.heap[b]?) : TxOwn base w' v t := by
  obtain ⟨⟨vi, vo, ps, rfl, hp, h1, h2, h3⟩, h4, h5⟩ := h
  exact ⟨⟨vi, vo, ps, rfl, hp, h1.kept fun b hb => hk b (h1.lt hb).1 (h1.lt hb).2, h2.kept fun b hb => hk b (h2.row.lt b hb).1 (h2.row.lt b hb).2, h3⟩, h4, h5⟩
/-- A transaction in blocks of the operation's own. -/
def Fact.tx (t : PTx) : Fact := ⟨fun v _ lo hi w => ∃ wx, wx.heap.size = hi ∧ TxOwn lo wx v t ∧ ∀ b, b < hi → w.heap[b]? = wx.heap[b]?, by
  rintro v d lo hi w w' hk ⟨wx, h1, h2, h3⟩
  exact ⟨wx, h1, h2, fun b hb => (hk b hb).trans (h3 b hb)⟩⟩
theorem has_set {v : Value} {ps : List (PIn × Value)} {i b : Nat} {p p' : PIn × Value} (hi : ps[i]? = some p) (e : p'.2 = p.2) (h : InsHas v (ps.set i p') b) : InsHas v ps b := by
  rcases h with h | ⟨j, q, hq, hb⟩
  · exact .inl h
  · by_cases hj : i = j
    · subst hj
      rw [List.getElem?_set_self (List.getElem?_eq_some_iff.1 hi).1] at hq
      obtain rfl := Option.some.inj hq
      exact .inr ⟨i, p, hi, e ▸ hb⟩
    · rw [List.getElem?_set_ne hj] at hq
      exact .inr ⟨j, q, hq, hb⟩

/-- A transaction whose rows, in the blocks from lo to hi, are being overwritten; all other blocks stay as at wS. -/
structure CV (w wS : World) (lo hi : Nat) (vi vo : Value) (ps : List (PIn × Value)) (l : List POut) (wr : World) : Prop where
  bel : Below w.heap.size w wr
  wlo : w.heap.size ≤ lo
  keep : ∀ b, ¬ (lo ≤ b ∧ b < hi) → wr.heap[b]? = wS.heap[b]?
  ins : InsOwn lo wr vi ps
  outs : OutsOwn lo wr vo l
  lt : ∀ b, (vo.ownBlock = some b ∨ InsHas vi ps b) → b < hi
  apart : ∀ b, vo.ownBlock = some b → ¬ InsHas vi ps b
section
variable {w wS wr : World} {lo hi : Nat} {vi vo : Value} {ps : List (PIn × Value)} {l : List POut}
theorem CV.in_ (h : CV w wS lo hi vi vo ps l wr) {b : Nat} (hb : vo.ownBlock = some b ∨ InsHas vi ps b) : lo ≤ b ∧ b < hi :=
  ⟨hb.elim (fun e => (h.outs.row.lt b e).1) (fun e => (h.ins.lt e).1), h.lt b hb⟩
theorem CV.cell (h : CV w wS lo hi vi vo ps l wr) {X j : Nat} {u : Value} (hX : ¬ (lo ≤ X ∧ X < hi)) (hc : wS.cell? ⟨X, j, none⟩ = some u) : wr.cell? ⟨X, j, none⟩ = some u := by
  rw [World.cell?_of_block (h.keep X hX)]
  exact hc
theorem CV.seq {b n c i : Nat} {x : PIn} {wv : Value} (h : CV w wS lo hi (.slice (some ⟨b, 0, none⟩) n c) vo ps l wr) (hp : ps[i]? = some (x, wv)) (s : Nat) (hs : s < 4294967296) :
    CV w wS lo hi (.slice (some ⟨b, 0, none⟩) n c) vo (ps.set i ({ x with seq := s }, wv)) l (wr.setCell ⟨b, i * 4 + 2, none⟩ (.int .u32 s)) := by
  have hin := h.in_ (b := b) (.inr (.inl rfl))
  have hok := h.ins.ok i _ hp
  refine ⟨h.bel.setCell (p := ⟨b, i * 4 + 2, none⟩) (Nat.le_trans h.wlo hin.1) _, h.wlo, fun b' hb' => ?_, h.ins.set hp 2 _ (by omega) rfl (h.ins.wit i (x, wv) hp) ⟨hok.id, hok.idx, hs, hok.wit⟩ (.inl rfl), ?_, fun b' hb' => h.lt b' (hb'.imp id (has_set (p' := ({ x with seq := s }, wv)) hp rfl)), fun b' hb' hh => h.apart b' hb' (has_set (p' := ({ x with seq := s }, wv)) hp rfl hh)⟩
  · rw [heap_setCell_other _ _ _ _ (fun e => by dsimp only at e; subst e; exact hb' hin)]
    exact h.keep b' hb'
  · refine h.outs.kept fun b' e => heap_setCell_other _ _ _ _ (fun e' => ?_)
    dsimp only at e'
    subst e'
    exact h.apart _ e (.inl rfl)
theorem CV.str {i B lw cw k : Nat} {x : PIn} (h : CV w wS lo hi vi vo ps l wr) (hp : ps[i]? = some (x, .slice (some ⟨B, 0, none⟩) lw cw)) (hk : k < x.wit.length) (s : ByteArray) (hs : s.size ≤ maxLen) :
    CV w wS lo hi vi vo (ps.set i ({ x with wit := x.wit.set k s }, .slice (some ⟨B, 0, none⟩) lw cw)) l (wr.setCell ⟨B, k, none⟩ (.string s)) := by
  have hB : InsHas vi ps B := .inr ⟨i, _, hp, rfl⟩
  have hin := h.in_ (.inr hB)
  refine ⟨h.bel.setCell (p := ⟨B, k, none⟩) (Nat.le_trans h.wlo hin.1) _, h.wlo, fun b' hb' => ?_, h.ins.setStr hp hk s hs, ?_, fun b' hb' => h.lt b' (hb'.imp id (has_set (p' := ({ x with wit := x.wit.set k s }, .slice (some ⟨B, 0, none⟩) lw cw)) hp rfl)), fun b' hb' hh => h.apart b' hb' (has_set (p' := ({ x with wit := x.wit.set k s }, .slice (some ⟨B, 0, none⟩) lw cw)) hp rfl hh)⟩
  · rw [heap_setCell_other _ _ _ _ (fun e => by dsimp only at e; subst e; exact hb' hin)]
    exact h.keep b' hb'
  · refine h.outs.kept fun b' e => heap_setCell_other _ _ _ _ (fun e' => ?_)
    dsimp only at e'
    subst e'
    exact h.apart _ e hB
theorem CV.out {b n c i : Nat} {x : POut} (h : CV w wS lo hi vi (.slice (some ⟨b, 0, none⟩) n c) ps l wr) (hp : l[i]? = some x) (s : ByteArray) (hs : s.size ≤ maxLen) :
    CV w wS lo hi vi (.slice (some ⟨b, 0, none⟩) n c) ps (l.set i { x with script := s }) (wr.setCell ⟨b, i * 2 + 1, none⟩ (.string s)) := by
  have hin := h.in_ (b := b) (.inl rfl)
  have hok := h.outs.ok x (List.mem_of_getElem? hp)
  refine ⟨h.bel.setCell (p := ⟨b, i * 2 + 1, none⟩) (Nat.le_trans h.wlo hin.1) _, h.wlo, fun b' hb' => ?_, h.ins.store _ _ (h.apart b rfl), h.outs.set hp 1 _ (by omega) rfl ⟨hok.1, hs⟩, fun b' hb' => h.lt b' hb', h.apart⟩
  rw [heap_setCell_other _ _ _ _ (fun e => by dsimp only at e; subst e; exact hb' hin)]
  exact h.keep b' hb'
end
theorem capB_wit {t : PTx} : ∀ x ∈ (cutTx 12 t).ins, x.wit.length ≤ 6 ∧ ∀ s ∈ x.wit, s.size ≤ 90 := by
  intro x hx
  unfold cutTx at hx
  simp only [List.mem_map] at hx
  obtain ⟨y, -, rfl⟩ := hx
  unfold cutIn
  refine ⟨by simp; omega, fun s hs => ?_⟩
  simp only [List.mem_map] at hs
  obtain ⟨z, -, rfl⟩ := hs
  exact capB_le 90 z
theorem cut_lens (t : PTx) : (cutTx 12 t).ins.length ≤ 12 ∧ (cutTx 12 t).outs.length ≤ 12 := by
  unfold cutTx
  simp
  omega
theorem sameTx_symm (t u : PTx) : sameTx u t = sameTx t u := by
  by_cases h : t = u
  · rw [same_yes h, same_yes h.symm]
  · rw [same_no h, same_no (fun e => h e.symm)]
/-- While both transactions are cut. -/
def RA (va vb : Value) (ta tb : PTx) : Nat → Fact
  | 0 => .val fun _ => va
  | 1 => .tx ta
  | 2 => .val fun _ => vb
  | 3 => .tx tb
  | 4 => .box fun _ => .cells #[.int .u32 0, .slice none 0 0, .slice none 0 0, .int .u32 0] 26 (0, 0)
  | 5 => .box fun _ => .cells #[.int .u32 0, .slice none 0 0, .slice none 0 0, .int .u32 0] 26 (0, 0)
  | _ => .any
theorem below_row {B g : Nat} {w0 w : World} (hb : Below B w0 w) (hBg : B ≤ g) (cs : Array Value) : Below B w0 (w.setRow g cs) :=
  ⟨hb.os, hb.tape, hb.output, by rw [setRow_size]; exact hb.size, fun k hk => by rw [setRow_other _ _ _ _ (by omega)]; exact hb.block k hk⟩
theorem tx_made {t : PTx} {v : Value} {d : List Value} {lo hi : Nat} {w : World} (h : (Fact.tx t).p v d lo hi w) : ∃ vi vo ps, v = .agg #[.int .u32 t.ver, vi, vo, .int .u32 t.lock] ∧ t.ins = ps.map (·.1) ∧ InsOwn lo w vi ps ∧ OutsOwn lo w vo t.outs ∧
    (∀ b, vo.ownBlock = some b → ¬ InsHas vi ps b) ∧ (∀ b, (vo.ownBlock = some b ∨ InsHas vi ps b) → lo ≤ b ∧ b < hi) ∧ t.ver < 4294967296 ∧ t.lock < 4294967296 := by
  obtain ⟨wx, rfl, ⟨⟨vi, vo, ps, rfl, hp, h1, h2, h3⟩, h4, h5⟩, hk⟩ := h
  have hlt : ∀ b, (vo.ownBlock = some b ∨ InsHas vi ps b) → lo ≤ b ∧ b < wx.heap.size := fun b hb => hb.elim (fun e => h2.row.lt b e) (fun e => h1.lt e)
  exact ⟨vi, vo, ps, rfl, hp, h1.kept fun b hb => hk b (hlt b (.inr hb)).2, h2.kept fun b hb => hk b (hlt b (.inl hb)).2, h3, hlt, h4, h5⟩
/-- What holds from the copies on: the argument's box, the transaction that will be overwritten and its box. -/
structure MS (w : World) (A7 lo hi : Nat) (arg : Array Value) (t ta : PTx) (vi vo : Value) (ps : List (PIn × Value)) (wx : World) : Prop where
  bel : Below w.heap.size w wx
  abox : wx.heap[w.heap.size]? = some (.cells arg 26 (0, 0))
  at_ : TxAt w (.agg arg) t
  b7 : wx.heap[A7]? = some (.cells #[.int .u32 ta.ver, vi, vo, .int .u32 ta.lock] 26 (0, 0))
  ins : InsOwn lo wx vi ps
  outs : OutsOwn lo wx vo ta.outs
  apart : ∀ b, vo.ownBlock = some b → ¬ InsHas vi ps b
  lt : ∀ b, (vo.ownBlock = some b ∨ InsHas vi ps b) → b < hi
  wlo : w.heap.size < lo
  hile : hi ≤ wx.heap.size
  ne7 : ¬ (lo ≤ A7 ∧ A7 < hi)
  is : ta.ins = ps.map (·.1)
  nums : ta.ver < 4294967296 ∧ ta.lock < 4294967296
section
variable {w wx w' : World} {A7 lo hi : Nat} {arg : Array Value} {t ta : PTx} {vi vo : Value} {ps : List (PIn × Value)}
theorem MS.next (h : MS w A7 lo hi arg t ta vi vo ps wx) (hb : Below wx.heap.size wx w') : MS w A7 lo hi arg t ta vi vo ps w' :=
  ⟨h.bel.trans (hb.mono h.bel.size), by rw [hb.block _ (Array.getElem?_eq_some_iff.1 h.abox).1]; exact h.abox, h.at_, by rw [hb.block _ (Array.getElem?_eq_some_iff.1 h.b7).1]; exact h.b7, h.ins.below hb, h.outs.below hb, h.apart, h.lt, h.wlo, Nat.le_trans h.hile hb.size, h.ne7, h.is, h.nums⟩
theorem MS.tx (h : MS w A7 lo hi arg t ta vi vo ps wx) : TxAt wx (.agg #[.int .u32 ta.ver, vi, vo, .int .u32 ta.lock]) ta :=
  ⟨vi, vo, rfl, by rw [h.is]; exact h.ins.sl, h.outs.sl, h.nums.1, h.nums.2⟩
theorem MS.at1 (h : MS w A7 lo hi arg t ta vi vo ps wx) : TxAt wx (.agg arg) t := h.at_.below h.bel
theorem MS.store {A8 : Nat} (h : MS w A7 lo hi arg t ta vi vo ps wx) (h8 : A8 ≠ A7 ∧ ¬ (lo ≤ A8 ∧ A8 < hi) ∧ w.heap.size < A8) (hb : Below w.heap.size wx w') (hk : ∀ b, b ≠ A8 → w'.heap[b]? = wx.heap[b]?) : MS w A7 lo hi arg t ta vi vo ps w' := by
  have hlt : ∀ b, (vo.ownBlock = some b ∨ InsHas vi ps b) → b ≠ A8 := fun b hb' e => by
    have h1 := h.lt b hb'
    have h2 : lo ≤ b := hb'.elim (fun e => (h.outs.row.lt b e).1) (fun e => (h.ins.lt e).1)
    omega
  exact ⟨h.bel.trans hb, by rw [hk _ (by omega)]; exact h.abox, h.at_, by rw [hk _ (by omega)]; exact h.b7, h.ins.kept fun b hb' => hk b (hlt b (.inr hb')), h.outs.kept fun b hb' => hk b (hlt b (.inl hb')), h.apart, h.lt, h.wlo, Nat.le_trans h.hile hb.size, h.ne7, h.is, h.nums⟩
theorem MS.cv (h : MS w A7 lo hi arg t ta vi vo ps wx) : CV w wx lo hi vi vo ps ta.outs wx :=
  ⟨h.bel, Nat.le_of_lt h.wlo, fun _ _ => rfl, h.ins, h.outs, h.lt, h.apart⟩
end
/-- The box of the other one. -/
def MB (A8 : Nat) (tb : PTx) (vc vd : Value) (wx : World) : Prop := wx.heap[A8]? = some (.cells #[.int .u32 tb.ver, vc, vd, .int .u32 tb.lock] 26 (0, 0)) ∧ TxAt wx (.agg #[.int .u32 tb.ver, vc, vd, .int .u32 tb.lock]) tb
theorem MB.next {A8 : Nat} {tb : PTx} {vc vd : Value} {wx w' : World} (h : MB A8 tb vc vd wx) (hb : Below wx.heap.size wx w') : MB A8 tb vc vd w' :=
  ⟨by rw [hb.block _ (Array.getElem?_eq_some_iff.1 h.1).1]; exact h.1, h.2.below hb⟩
/-- A box, and a transaction of the call's own behind a block. -/
structure MC (A B : Nat) (tc : PTx) (vc vd : Value) (wx : World) : Prop where
  box : wx.heap[A]? = some (.cells #[.int .u32 tc.ver, vc, vd, .int .u32 tc.lock] 26 (0, 0))
  own : TxOwn B wx (.agg #[.int .u32 tc.ver, vc, vd, .int .u32 tc.lock]) tc
theorem MC.next {A B : Nat} {tc : PTx} {vc vd : Value} {wx w' : World} (h : MC A B tc vc vd wx) (hb : Below wx.heap.size wx w') : MC A B tc vc vd w' :=
  ⟨by rw [hb.block _ (Array.getElem?_eq_some_iff.1 h.box).1]; exact h.box, h.own.below hb⟩
theorem MC.kept {A B lo hi : Nat} {tc : PTx} {vc vd : Value} {wx w' : World} (h : MC A B tc vc vd wx) (hB : hi ≤ B) (hA : hi ≤ A) (hk : ∀ b, ¬ (lo ≤ b ∧ b < hi) → w'.heap[b]? = wx.heap[b]?) : MC A B tc vc vd w' :=
  ⟨by rw [hk A (by omega)]; exact h.box, h.own.kept2 fun b hb _ => hk b (by omega)⟩
/-- Neither the witness nor its texts are great. -/
def SmallIn (p : PIn × Value) : Prop := p.1.wit.length ≤ 6 ∧ ∀ s ∈ p.1.wit, s.size ≤ 90
theorem set_later {ps : List (PIn × Value)} {k : Nat} {q : PIn × Value} {P : PIn × Value → Prop} (h : ∀ (j : Nat) (p : PIn × Value), k + 1 ≤ j → ps[j]? = some p → P p) : ∀ (j : Nat) (p : PIn × Value), k + 1 ≤ j → (ps.set k q)[j]? = some p → P p := by
  intro j p hj hp
  rw [List.getElem?_set_ne (by omega)] at hp
  exact h j p hj hp
theorem wit_later {l : List ByteArray} {q : Nat} {s' : ByteArray} (h : ∀ (j : Nat) (s : ByteArray), q ≤ j → l[j]? = some s → s.size ≤ 90) : ∀ (j : Nat) (s : ByteArray), q + 1 ≤ j → (l.set q s')[j]? = some s → s.size ≤ 90 := by
  intro j s hj hs
  rw [List.getElem?_set_ne (by omega)] at hs
  exact h j s (by omega) hs
theorem size_x (s : ByteArray) (h : s.size ≤ 90) : (s ++ (⟨#[120]⟩ : ByteArray)).size ≤ maxLen := by
  rw [maxLen_eq, ByteArray.size_append]
  have : (⟨#[120]⟩ : ByteArray).size = 1 := rfl
  omega
end Go.Proofs.Ytjbpaknjiplakaa
