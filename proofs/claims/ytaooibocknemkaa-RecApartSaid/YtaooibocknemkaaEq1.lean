/-
  Lists of records that the call makes. Conditions: those named in each theorem.
-/
import Derived.Test.YtaooibocknemkaaEz
namespace Go.Proofs.Ytaooibocknemkaa
open Go.RowKit Go.BigFrame
set_option linter.unusedVariables false
set_option linter.unusedSimpArgs false
abbrev PE := PRec × Value × Value
def apRow (p : PE) : List Value := [.int .i64 p.1.kind, .int .i64 p.1.num, .int .u32 p.1.tx.ver, p.2.1, p.2.2, .int .u32 p.1.tx.lock, .int .i64 p.1.index, .string p.1.id, .int .u32 p.1.idx, .int .i64 p.1.val, .int .i64 p.1.br, .int .u16 p.1.tag, .int .u16 p.1.delay, .int .u32 p.1.height, .int .i64 p.1.dead, .int .i64 p.1.budget, .int .i64 p.1.start, .int .i64 p.1.fee]
def apCells (l : List PE) : List Value := l.flatMap apRow
theorem apRow_len (p : PE) : (apRow p).length = 18 := rfl
theorem apCells_len (l : List PE) : (apCells l).length = l.length * 18 := flat_len apRow 18 apRow_len l
/-- The record stays, whatever becomes of the block o. -/
def RecBut (o : Option Nat) (w : World) (p : PE) : Prop := ∀ w' : World, (∀ b, some b ≠ o → b < w.heap.size → w'.heap[b]? = w.heap[b]?) → RecAt w' (.agg (apRow p).toArray) p.1
theorem RecBut.at_ {o : Option Nat} {w : World} {p : PE} (h : RecBut o w p) : RecAt w (.agg (apRow p).toArray) p.1 := h w fun _ _ _ => rfl
theorem RecBut.below {o : Option Nat} {w w' : World} {p : PE} (h : RecBut o w p) (hb : Below w.heap.size w w') : RecBut o w' p := fun w2 h2 => h w2 fun b h3 h4 => (h2 b h3 (Nat.lt_of_lt_of_le h4 hb.size)).trans (hb.block b h4)
theorem RecBut.of {B : Nat} {o : Option Nat} {w : World} {p : PE} (h : RecOwn B w (.agg (apRow p).toArray) p.1) (ho : ∀ b, o = some b → b < B) : RecBut o w p := by
  obtain ⟨va, vb, hv, ht, hk⟩ := h
  intro w' hw
  obtain ⟨⟨vi, vo, ps, he, hp, g1, g2, g3⟩, g4, g5⟩ := ht
  have hne : ∀ b, B ≤ b → some b ≠ o := fun b hb e => by have := ho b e.symm; omega
  have h2 : TxOwn B w' (.agg #[.int .u32 p.1.tx.ver, va, vb, .int .u32 p.1.tx.lock]) p.1.tx := ⟨⟨vi, vo, ps, he, hp, g1.kept fun b hb => hw b (hne b (g1.lt hb).1) (g1.lt hb).2, g2.kept fun b hb => hw b (hne b (g2.row.lt b hb).1) (g2.row.lt b hb).2, g3⟩, g4, g5⟩
  exact ⟨va, vb, hv, h2.at_.1, h2.at_.2, hk⟩
def allL (l : List PE) : List UInt8 := (l.map fun p => putL p.1).flatten
theorem allL_snoc (l : List PE) (p : PE) : allL (l ++ [p]) = allL l ++ putL p.1 := by simp [allL]
structure ApOwn (base : Nat) (w : World) (v : Value) (l : List PE) : Prop where
  row : w.ownsRow base 38 18 v l.length (apCells l)
  each : ∀ p ∈ l, RecBut v.ownBlock w p ∧ checkR p.1 = 0
theorem ApOwn.below {base : Nat} {w w' : World} {v : Value} {l : List PE} (h : ApOwn base w v l) (hb : Below w.heap.size w w') : ApOwn base w' v l := ⟨ownsRow_below h.row hb, fun p hp => ⟨(h.each p hp).1.below hb, (h.each p hp).2⟩⟩
theorem apOwn_nil (base : Nat) (w : World) : ApOwn base w (.slice none 0 0) [] := ⟨World.ownsRow_nil _ _ _ _, fun x hx => by simp at hx⟩
theorem info_rec : (Try.prog.info? 38).map (fun i => (i.zero, i.size, i.bytes)) = some (some (.agg #[.int .i64 0, .int .i64 0, .int .u32 0, .slice none 0 0, .slice none 0 0, .int .u32 0, .int .i64 0, .string ByteArray.empty, .int .u32 0, .int .i64 0, .int .i64 0, .int .u16 0, .int .u16 0, .int .u32 0, .int .i64 0, .int .i64 0, .int .i64 0, .int .i64 0]), 18, 168) := by kernel_rfl
theorem ApOwn.range {base : Nat} {w : World} {a : Option Addr} {n c : Nat} {l : List PE} (h : ApOwn base w (.slice a n c) l) {j : Nat} {p : PE} (hj : l[j]? = some p) : ∃ b, a = some ⟨b, 0, none⟩ ∧ w.rangeAt b (j * 18) (apRow p) := by
  have hjl := (List.getElem?_eq_some_iff.1 hj).1
  have hn : n = l.length := by obtain ⟨a2, c2, e, -, -⟩ := ownsRow_shape h.row; injection e
  obtain ⟨b, rfl, -, -⟩ := ownsRow_some (hn ▸ h.row) (by omega)
  refine ⟨b, rfl, fun i v hi => ?_⟩
  have hi18 : i < 18 := (List.getElem?_eq_some_iff.1 hi).1
  have h1 := h.row.cells (g := b) rfl (j * 18 + i) v (by rw [show apCells l = l.flatMap apRow from rfl, flat_at apRow 18 apRow_len l j p hj i hi18]; exact hi)
  rw [Addr.add_mid, Nat.zero_add] at h1
  exact h1
/-- A record more. -/
theorem ApOwn.app {base : Nat} {w : World} {v : Value} {l : List PE} (h : ApOwn base w v l) {p : PE} (hp : RecBut v.ownBlock w p) (hc : checkR p.1 = 0) (h1 : ∀ u ∈ apRow p, u.oneCell' = true) (hn : l.length < 1000000) (hb : base ≤ w.heap.size) :
    ∃ a' c' w', (Builtin.append_ #[52, 52] 52 #[v, .slice (some ⟨w.heap.size, 0, none⟩) 1 1]).run Try.prog (w.alloc (.cells (apRow p).toArray 38)) = .ok (.slice a' (l.length + 1) c') w' ∧
      ApOwn base w' (.slice a' (l.length + 1) c') (l ++ [p]) ∧ Below base w w' := by
  obtain ⟨i0, hi, hz0, hz1, hz2⟩ := info_parts info_rec
  obtain ⟨a2, c2, w2, hrun, hown2, hb2, hg2, hv2⟩ := append_one (P := Try.prog) Try.underlying52 hi hz0 hz1 hz2 rfl h.row (apRow p).toArray rfl (by simpa using h1) (by rw [maxLen_eq]; omega) (by omega) hb (ty := 52)
  refine ⟨a2, c2, w2, hrun, ⟨?_, fun q hq => ?_⟩, hb2⟩
  · have e1 : apCells (l ++ [p]) = apCells l ++ apRow p := by simp [apCells]
    rw [e1, List.length_append]
    exact hown2
  · have move : ∀ q : PE, RecBut v.ownBlock w q → RecBut (Value.slice a2 (l.length + 1) c2).ownBlock w2 q := by
      intro q hq w3 h3
      refine hq w3 fun b hne hlt => ?_
      have hs : b < (w.alloc (.cells (apRow p).toArray 38)).heap.size := by simp; omega
      have hk := hg2.block b hs hne
      have hsz := hg2.size
      rw [h3 b (fun e => ?_) (by omega), hk]
      · exact Below.heap_alloc w _ b hlt
      · rcases hv2 with e2 | e2
        · exact hne (e.trans e2)
        · rw [e2] at e
          injection e with e
          omega
    rcases List.mem_append.1 hq with hq | hq
    · exact ⟨move q (h.each q hq).1, (h.each q hq).2⟩
    · rw [List.mem_singleton.1 hq]
      exact ⟨move p hp, hc⟩
set_option maxRecDepth 100000 in
theorem open_smls {H : Type} {enc : TypeId × Value → H} {w : World} {v : Value} {d : DataW H} {ps : List MemPlace} (hv : Value.okWide Try.prog w .any 0 51 v) (h : DataW.Trod enc Try.prog w 0 (fun _ => true) true 51 v d ps) : ∃ zs, SlAt rpSml w v zs := by
  obtain ⟨a, n, c, rfl⟩ := Go.WideShapes.okWide_slice Try.underlying51 hv
  obtain ⟨fuel, hf⟩ := h
  obtain ⟨l, u, e, hu⟩ := rp_of_slice (R := rpSml) Try.underlying51 (by kernel_rfl) (by decide) (fun _ _ _ => rp_of_small) hf
  have e' : Value.slice a n c = u := by simpa [Value.cells] using e
  exact ⟨l, e' ▸ hu⟩
end Go.Proofs.Ytaooibocknemkaa
