/-
  Locks: the transaction of a Spend. Conditions: none beyond each theorem's own.
-/
import Derived.Test.YtiicigpndagecaaLockT
import Derived.Deep.RegionHeld3
namespace Go.Proofs.Ytiicigpndagecaa
open Go.RowKit Go.BigFrame
set_option linter.unusedVariables false
set_option linter.unusedSimpArgs false

theorem SlAt.strStore {w : World} {v : Value} {xs : List ByteArray} (h : SlAt rpStr w v xs) (p : Addr) (u : Value) (hp : ∀ s, w.cell? p ≠ some (.string s)) : SlAt rpStr (w.setCell p u) v xs := by
  obtain ⟨a, c, h1, h2, h3, h4⟩ := h
  refine ⟨a, c, h1, h2, h3, fun i x hi => ?_⟩
  obtain ⟨b, o, cs, e1, e2, e3, e4⟩ := h4 i x hi
  refine ⟨b, o, cs, e1, e2, fun j y hj => ?_, e4⟩
  have hc := e3 j y hj
  obtain ⟨rfl, -⟩ := e4
  have hy : y = .string x := by
    have : j = 0 := by have := (List.getElem?_eq_some_iff.1 hj).1; simp at this; omega
    subst this
    simpa using hj.symm
  subst hy
  rw [World.cell?_setCell_other]
  · exact hc
  · intro e
    exact hp x (by rw [e]; exact hc)

/-- Ins in a row, cell by cell. -/
def InsLie (w : World) (b : Nat) (ps : List (PIn × Value)) : Prop := ∀ (j : Nat) (p : PIn × Value), ps[j]? = some p →
  (w.cell? ⟨b, j * 4, none⟩ = some (.string p.1.id) ∧ w.cell? ⟨b, j * 4 + 1, none⟩ = some (.int .u32 p.1.idx) ∧ w.cell? ⟨b, j * 4 + 2, none⟩ = some (.int .u32 p.1.seq) ∧ w.cell? ⟨b, j * 4 + 3, none⟩ = some p.2) ∧ SlAt rpStr w p.2 p.1.wit ∧
    p.1.id.size ≤ maxLen ∧ p.1.idx < 4294967296 ∧ p.1.seq < 4294967296
theorem InsOwn.lie {base : Nat} {w : World} {b n c : Nat} {ps : List (PIn × Value)} (h : InsOwn base w (.slice (some ⟨b, 0, none⟩) n c) ps) : InsLie w b ps := by
  intro j p hp
  obtain ⟨b', e, -, -, e0, e1, e2, e3⟩ := h.at hp
  obtain rfl : b = b' := by simpa using e
  exact ⟨⟨e0, e1, e2, e3⟩, SlAt.of_strs (h.wit j p hp) rfl (h.ok j p hp).wit, (h.ok j p hp).id, (h.ok j p hp).idx, (h.ok j p hp).seq⟩
theorem InsLie.store {w : World} {b : Nat} {ps : List (PIn × Value)} (h : InsLie w b ps) (p : Addr) (u : Value) (hb : p.block ≠ b) (hp : ∀ s, w.cell? p ≠ some (.string s)) : InsLie (w.setCell p u) b ps := by
  intro j q hq
  obtain ⟨⟨e0, e1, e2, e3⟩, h2, h3⟩ := h j q hq
  have ne : ∀ o, p ≠ (⟨b, o, none⟩ : Addr) := fun o e => hb (by rw [e])
  exact ⟨⟨by rw [World.cell?_setCell_other _ _ _ _ (ne _)]; exact e0, by rw [World.cell?_setCell_other _ _ _ _ (ne _)]; exact e1, by rw [World.cell?_setCell_other _ _ _ _ (ne _)]; exact e2, by rw [World.cell?_setCell_other _ _ _ _ (ne _)]; exact e3⟩, h2.strStore p u hp, h3⟩
theorem InsLie.below {w w' : World} {b : Nat} {ps : List (PIn × Value)} (h : InsLie w b ps) (hb : Below w.heap.size w w') : InsLie w' b ps := by
  intro j q hq
  obtain ⟨⟨e0, e1, e2, e3⟩, h2, h3⟩ := h j q hq
  exact ⟨⟨below_cells hb _ _ e0, below_cells hb _ _ e1, below_cells hb _ _ e2, below_cells hb _ _ e3⟩, h2.below hb, h3⟩
theorem addr_ne {b o o' : Nat} (h : o ≠ o') : (⟨b, o, none⟩ : Addr) ≠ ⟨b, o', none⟩ := fun e => h (by injection e)
theorem InsLie.set {w : World} {b i : Nat} {ps : List (PIn × Value)} (h : InsLie w b ps) {q : PIn × Value} (hi : ps[i]? = some q) {wv : Value} {ws : List ByteArray} (hw : SlAt rpStr w wv ws) {ao : Option Addr} {an ac : Nat} (hq2 : q.2 = .slice ao an ac) :
    InsLie (w.setCell ⟨b, i * 4 + 3, none⟩ wv) b (ps.set i (⟨q.1.id, q.1.idx, q.1.seq, ws⟩, wv)) := by
  have hns : ∀ s, w.cell? ⟨b, i * 4 + 3, none⟩ ≠ some (.string s) := fun s e => by
    rw [(h i q hi).1.2.2.2, hq2] at e
    cases e
  intro j p hp
  by_cases hj : j = i
  · subst hj
    rw [List.getElem?_set_self (List.getElem?_eq_some_iff.1 hi).1] at hp
    obtain rfl := Option.some.inj hp
    obtain ⟨⟨e0, e1, e2, e3⟩, h2, h3⟩ := h j q hi
    refine ⟨⟨?_, ?_, ?_, ?_⟩, hw.strStore _ _ hns, h3⟩
    · rw [World.cell?_setCell_other _ _ _ _ (addr_ne (by omega))]; exact e0
    · rw [World.cell?_setCell_other _ _ _ _ (addr_ne (by omega))]; exact e1
    · rw [World.cell?_setCell_other _ _ _ _ (addr_ne (by omega))]; exact e2
    · exact World.cell?_setCell_same w _ _ e3
  · rw [List.getElem?_set_ne (Ne.symm hj)] at hp
    obtain ⟨⟨e0, e1, e2, e3⟩, h2, h3⟩ := h j p hp
    refine ⟨⟨?_, ?_, ?_, ?_⟩, h2.strStore _ _ hns, h3⟩
    · rw [World.cell?_setCell_other _ _ _ _ (addr_ne (by omega))]; exact e0
    · rw [World.cell?_setCell_other _ _ _ _ (addr_ne (by omega))]; exact e1
    · rw [World.cell?_setCell_other _ _ _ _ (addr_ne (by omega))]; exact e2
    · rw [World.cell?_setCell_other _ _ _ _ (addr_ne (by omega))]; exact e3
theorem InsLie.sl {w : World} {b n c : Nat} {ps : List (PIn × Value)} (h : InsLie w b ps) (hn : ps.length = n) (hc : n ≤ c) (hm : c ≤ maxLen) : SlAt rpIn w (.slice (some ⟨b, 0, none⟩) n c) (ps.map (·.1)) := by
  subst hn
  refine ⟨some ⟨b, 0, none⟩, c, by simp, by simpa using hc, hm, fun i x hi => ?_⟩
  rw [List.getElem?_map] at hi
  obtain ⟨p, hp, rfl⟩ := Option.map_eq_some_iff.1 hi
  obtain ⟨⟨e0, e1, e2, e3⟩, h2, h3, h4, h5⟩ := h i p hp
  refine ⟨b, 0, [.string p.1.id, .int .u32 p.1.idx, .int .u32 p.1.seq, p.2], rfl, rfl, fun j u hj => ?_, p.2, rfl, h2, h3, h4, h5⟩
  rw [show 0 + i * rpIn.size + j = i * 4 + j by simp [rpIn]]
  match j, hj with
  | 0, hj => simp at hj; subst hj; exact e0
  | 1, hj => simp at hj; subst hj; exact e1
  | 2, hj => simp at hj; subst hj; exact e2
  | 3, hj => simp at hj; subst hj; exact e3

/-- Stores into one block that holds no text. -/
theorem SlAt.strKept {w w' : World} {v : Value} {xs : List ByteArray} {B : Nat} (h : SlAt rpStr w v xs) (hk : ∀ p : Addr, p.block ≠ B → w'.cell? p = w.cell? p) (hn : ∀ j s, w.cell? ⟨B, j, none⟩ ≠ some (.string s)) : SlAt rpStr w' v xs := by
  obtain ⟨a, c, h1, h2, h3, h4⟩ := h
  refine ⟨a, c, h1, h2, h3, fun i x hi => ?_⟩
  obtain ⟨b, o, cs, e1, e2, e3, e4⟩ := h4 i x hi
  refine ⟨b, o, cs, e1, e2, fun j y hj => ?_, e4⟩
  have hc := e3 j y hj
  obtain ⟨rfl, -⟩ := e4
  have hy : y = .string x := by
    have : j = 0 := by have := (List.getElem?_eq_some_iff.1 hj).1; simp at this; omega
    subst this
    simpa using hj.symm
  subst hy
  rw [hk]
  · exact hc
  · intro e
    dsimp only at e
    subst e
    exact hn _ x hc
theorem InsLie.kept {w w' : World} {b B : Nat} {ps : List (PIn × Value)} (h : InsLie w b ps) (hb : b ≠ B) (hk : ∀ p : Addr, p.block ≠ B → w'.cell? p = w.cell? p) (hn : ∀ j s, w.cell? ⟨B, j, none⟩ ≠ some (.string s)) : InsLie w' b ps := by
  intro j q hq
  obtain ⟨⟨e0, e1, e2, e3⟩, h2, h3⟩ := h j q hq
  exact ⟨⟨(hk _ hb).trans e0, (hk _ hb).trans e1, (hk _ hb).trans e2, (hk _ hb).trans e3⟩, h2.strKept hk hn, h3⟩
theorem four_stores (w : World) (b : Nat) (u0 u1 u2 u3 : Value) (p : Addr) (hp : p.block ≠ b) : ((((w.setCell ⟨b, 0, none⟩ u0).setCell ⟨b, 1, none⟩ u1).setCell ⟨b, 2, none⟩ u2).setCell ⟨b, 3, none⟩ u3).cell? p = w.cell? p := by
  have ne : ∀ o, (⟨b, o, none⟩ : Addr) ≠ p := fun o e => hp (by rw [← e])
  rw [World.cell?_setCell_other _ _ _ _ (ne _), World.cell?_setCell_other _ _ _ _ (ne _), World.cell?_setCell_other _ _ _ _ (ne _), World.cell?_setCell_other _ _ _ _ (ne _)]
theorem four_blocks (w : World) (b k : Nat) (u0 u1 u2 u3 : Value) (hk : k ≠ b) : ((((w.setCell ⟨b, 0, none⟩ u0).setCell ⟨b, 1, none⟩ u1).setCell ⟨b, 2, none⟩ u2).setCell ⟨b, 3, none⟩ u3).heap[k]? = w.heap[k]? := by
  rw [Below.heap_setCell _ _ _ _ hk, Below.heap_setCell _ _ _ _ hk, Below.heap_setCell _ _ _ _ hk, Below.heap_setCell _ _ _ _ hk]
theorem four_below {B : Nat} {w0 w : World} (h : Below B w0 w) (b : Nat) (hb : B ≤ b) (u0 u1 u2 u3 : Value) : Below B w0 ((((w.setCell ⟨b, 0, none⟩ u0).setCell ⟨b, 1, none⟩ u1).setCell ⟨b, 2, none⟩ u2).setCell ⟨b, 3, none⟩ u3) :=
  (((h.setCell hb _).setCell hb _).setCell hb _).setCell hb _

theorem below_free {w w' : World} (h : Below w.heap.size w w') {p : Addr} {v : Value} (hc : w.cell? p = some v) (hf : w.frozen? p = false) : w'.frozen? p = false := by
  have hl := World.block_lt_of_cell? w p hc
  rw [← hf]
  simp only [World.frozen?, h.block _ hl]

theorem kept_at {w w1 : World} {b : Nat} {ob : Obj} (h : w.heap[b]? = some ob) (hb : Below w.heap.size w w1) : w1.heap[b]? = some ob := (hb.block _ (Array.getElem?_eq_some_iff.1 h).1).trans h

/-- What a call of spending answers. -/
def SpendIs (w : World) (e : Ending) (w' : World) : Prop := ∃ v t i, e = .returned (.tuple #[v, .int .i64 i]) ∧ TxAt w' v t ∧ i64ok i ∧ Below w.heap.size w w'

set_option maxRecDepth 100000 in
set_option maxHeartbeats 4000000 in
theorem spending_any (v : Value) (z : PSpend) (w : World) (hv : SpAt w v z) : Calls Try.prog 10 #[v] w (SpendIs w) := by
  obtain ⟨⟨vb, va, vo, rfl, hb, ht⟩, hs, h1, h2, h3, h4, h5⟩ := hv
  obtain ⟨xs, s, t, n3, n4, n5, raw, own, br, tg⟩ := z
  dsimp only at *
  have HI3 := Lib.hid h1
  have HT := Lib.hid ht
  clear hb h1 h2 h3 ht hs
  have hs2 : ∀ (a b : Obj), ((w.alloc a).alloc b).heap.size = w.heap.size + 2 := fun a b => by simp
  have HS2 := Lib.hid hs2
  clear hs2
  have hcc := fun (a b : Obj) => fit_any _ _ _ (HT.out.below (((Below.refl _ _).alloc (Nat.le_refl _) a).alloc (by simp) b))
  have HCC := Lib.hid hcc
  clear hcc
  go_enter Try.func10, Try.ntmps10
  go_wp2_with fail
  refine (HCC.out _ _).mono ?_
  rintro e w1 ⟨v1, t1, rfl, hown, hfit, hb1⟩
  rw [HS2.out] at hown hb1
  obtain ⟨⟨vi, vo', ps, rfl, hp, hi, ho, hap⟩, hver, hlock⟩ := hown
  obtain ⟨ver, ins, outs, lock⟩ := t1
  dsimp only at *
  obtain ⟨ai, ci, rfl, hpc, hcm⟩ := ownsRow_shape hi.row
  obtain ⟨ao, co, rfl, hoc, hom⟩ := ownsRow_shape ho.row
  have hn8 : ps.length ≤ 8 := by
    have := hfit.few.1
    dsimp only at this
    rw [hp, List.length_map] at this
    exact this
  have hal : ∀ (cs : Array Value), Below w1.heap.size w1 (w1.alloc (.cells cs 27)) := fun cs => (Below.refl _ _).alloc (Nat.le_refl _) _
  have hz1 : w1.heap[w.heap.size]? = some (.cells #[vb, .string s, .int .u32 t.ver, va, vo, .int .u32 t.lock, .int .i64 n3, .int .i64 n4, .int .i64 n5, .bool raw, .bool own, .int .u8 br, .int .u8 tg] 29 (0, 0)) := by
    rw [hb1.block _ (by omega), Below.heap_alloc _ _ _ (by simp)]
    exact heap_alloc_new w _
  have hr1 : w1.heap[w.heap.size + 1]? = some (.cells #[.int .u32 0, .slice none 0 0, .slice none 0 0, .int .u32 0] 27 (0, 0)) := by
    rw [hb1.block _ (by omega)]
    have := heap_alloc_new (w.alloc (.cells #[vb, .string s, .int .u32 t.ver, va, vo, .int .u32 t.lock, .int .i64 n3, .int .i64 n4, .int .i64 n5, .bool raw, .bool own, .int .u8 br, .int .u8 tg] 29)) (.cells #[.int .u32 0, .slice none 0 0, .slice none 0 0, .int .u32 0] 27)
    simpa using this
  have hsz := hb1.size
  rw [HS2.out] at hsz
  have hb0 : Below w.heap.size w w1 := (((Below.refl _ _).alloc (Nat.le_refl _) _).alloc (by simp) _).trans (hb1.mono (by omega))
  obtain ⟨N, hN⟩ : ∃ N, N = ps.length := ⟨_, rfl⟩
  rw [← hN] at hi hpc hn8 ⊢
  obtain ⟨M, hM⟩ : ∃ N, N = outs.length := ⟨_, rfl⟩
  rw [← hM] at ho hoc ⊢
  rw [← hM, ← hN] at hap
  have HNN := Lib.hid hN
  obtain ⟨X, hX⟩ : ∃ X, X = w1.heap.size := ⟨_, rfl⟩
  have HXX := Lib.hid hX
  clear hN hM hX
  go_upto_region 2 with fail
  have hx2 := heap_alloc_new w1 (.cells #[.int .u32 ver, .slice ai N ci, .slice ao M co, .int .u32 lock] 27)
  have hal2 := hal #[.int .u32 ver, .slice ai N ci, .slice ao M co, .int .u32 lock]
  generalize (w1.alloc (.cells #[.int .u32 ver, .slice ai N ci, .slice ao M co, .int .u32 lock] 27)) = w2 at *
  have hi2 := hi.below hal2
  have ho2 := ho.below hal2
  have hb2 : Below w.heap.size w w2 := hb0.trans (hal2.mono hb0.size)
  have hz2 := (hal2.block _ (by omega)).trans hz1
  have hr2 := (hal2.block _ (by omega)).trans hr1
  have hX := HXX.out
  rw [← hX] at hx2 hsz ⊢
  have hlow : ∀ b, InsHas (.slice ai N ci) ps b → w.heap.size + 2 ≤ b ∧ b < X := fun b hh => by rw [hX]; exact hi.lt hh
  have hlowo : ∀ b, (Value.slice ao M co).ownBlock = some b → w.heap.size + 2 ≤ b ∧ b < X := fun b e => by rw [hX]; exact ho.row.lt b e
  have z6 : w2.cell? ⟨w.heap.size, 6, none⟩ = some (.int .i64 n3) := cell_at hz2
  have z10 : w2.cell? ⟨w.heap.size, 10, none⟩ = some (.bool own) := cell_at hz2
  have x0 : w2.cell? ⟨X, 0, none⟩ = some (.int .u32 ver) := cell_at hx2
  have x1 : w2.cell? ⟨X, 1, none⟩ = some (.slice ai N ci) := cell_at hx2
  have x2 : w2.cell? ⟨X, 2, none⟩ = some (.slice ao M co) := cell_at hx2
  have x3 : w2.cell? ⟨X, 3, none⟩ = some (.int .u32 lock) := cell_at hx2
  have r0 : w2.cell? ⟨w.heap.size + 1, 0, none⟩ = some (.int .u32 0) := cell_at hr2
  have r1 : w2.cell? ⟨w.heap.size + 1, 1, none⟩ = some (.slice none 0 0) := cell_at hr2
  have r2 : w2.cell? ⟨w.heap.size + 1, 2, none⟩ = some (.slice none 0 0) := cell_at hr2
  have r3 : w2.cell? ⟨w.heap.size + 1, 3, none⟩ = some (.int .u32 0) := cell_at hr2
  have f0 : w2.frozen? ⟨w.heap.size + 1, 0, none⟩ = false := free_at hr2
  have f1 : w2.frozen? ⟨w.heap.size + 1, 1, none⟩ = false := free_at hr2
  have f2 : w2.frozen? ⟨w.heap.size + 1, 2, none⟩ = false := free_at hr2
  have f3 : w2.frozen? ⟨w.heap.size + 1, 3, none⟩ = false := free_at hr2
  have hplain : ∀ i, i64ok i → SpendIs w (.returned (.tuple #[.agg #[.int .u32 ver, .slice ai N ci, .slice ao M co, .int .u32 lock], .int .i64 i])) ((((w2.setCell ⟨w.heap.size + 1, 0, none⟩ (.int .u32 ver)).setCell ⟨w.heap.size + 1, 1, none⟩ (.slice ai N ci)).setCell ⟨w.heap.size + 1, 2, none⟩ (.slice ao M co)).setCell ⟨w.heap.size + 1, 3, none⟩ (.int .u32 lock)) := fun i hi3 =>
    ⟨_, ⟨ver, ins, outs, lock⟩, i, rfl, ⟨_, _, rfl, by
      rw [hp]
      exact (hi2.kept fun b hh => four_blocks _ _ _ _ _ _ _ (by have := (hlow b hh).1; omega)).sl, (ho2.kept fun b e => four_blocks _ _ _ _ _ _ _ (by have := (hlowo b e).1; omega)).sl, hver, hlock⟩, hi3, four_below hb2 _ (by omega) _ _ _ _⟩
  have HPLAIN := Lib.hid hplain
  have HI2 := Lib.hid hi2
  have HO2 := Lib.hid ho2
  have HB2 := Lib.hid hb2
  have HZ2 := Lib.hid hz2
  have HR2 := Lib.hid hr2
  have HX2 := Lib.hid hx2
  have HLOW := Lib.hid hlow
  have HLOWO := Lib.hid hlowo
  have HP := Lib.hid hp
  have HAPP := Lib.hid hap
  have HVL := Lib.hid (And.intro hver hlock)
  have HCI := Lib.hid (And.intro hpc hcm)
  clear hplain hi2 ho2 hb2 hz2 hr2 hx2 hlow hlowo hp hver hlock hpc hcm hi ho hap hal hal2 hz1 hr1 hb1 hb0 hX HCC HT HS2 hfit hoc hom hsz
  by_cases hN0 : 0 < N
  case neg =>
    go_wp2
    exact bodyPost_ret (v := .tuple #[.agg #[.int .u32 ver, .slice ai N ci, .slice ao M co, .int .u32 lock], .int .i64 n3]) (by simp [results, Try.results10, go_sem, r0, r1, r2, r3]) rfl (HPLAIN.out _ HI3.out)
  obtain ⟨q, hq, hqN⟩ : ∃ q : Nat, max 0 n3 % (N : Int) = q ∧ q < N := by
    have h1 := Int.emod_nonneg (max 0 n3) (by omega : (N : Int) ≠ 0)
    have h2 := Int.emod_lt_of_pos (max 0 n3) (by omega : (0 : Int) < N)
    exact ⟨(max 0 n3 % (N : Int)).toNat, by omega, by omega⟩
  have hqi : i64ok (q : Int) := ⟨by omega, by omega⟩
  have HQI := Lib.hid hqi
  clear hqi
  cases own
  case false =>
    go_wp2
    exact bodyPost_ret (v := .tuple #[.agg #[.int .u32 ver, .slice ai N ci, .slice ao M co, .int .u32 lock], .int .i64 q]) (by simp [results, Try.results10, go_sem, r0, r1, r2, r3, hq]) rfl (HPLAIN.out _ HQI.out)
  case true =>
    obtain ⟨⟨x, wv⟩, hpk⟩ : ∃ p, ps[q]? = some p := ⟨_, List.getElem?_eq_getElem (by rw [← HNN.out]; exact hqN)⟩
    obtain ⟨b, rfl, -, -, -, -, -, d3⟩ := HI2.out.at hpk
    have hbX := (HLOW.out b (.inl rfl)).2
    have hbB := (HLOW.out b (.inl rfl)).1
    have fd3 := ownsRow_free HI2.out.row (q * 4 + 3)
    obtain ⟨aw, cw, hwv, -, -⟩ := ownsRow_shape (HI2.out.wit q _ hpk)
    dsimp only at d3 hwv
    have z11 : w2.cell? ⟨w.heap.size, 11, none⟩ = some (.int .u8 br) := cell_at HZ2.out
    have z12 : w2.cell? ⟨w.heap.size, 12, none⟩ = some (.int .u8 tg) := cell_at HZ2.out
    obtain ⟨p3, hp3, hp3i⟩ : ∃ p : Nat, p < 3 ∧ (br : Int) % 3 = p := ⟨br % 3, Nat.mod_lt _ (by decide), by omega⟩
    obtain ⟨p4, hp4, hp4i⟩ : ∃ p : Nat, p < 65536 ∧ (tg : Int) % 4 = p := ⟨tg % 4, by omega, by omega⟩
    have hA : IntKind.i64.wrap ((br : Int).tmod 3) = (p3 : Int) := by
      rw [Int.tmod_eq_emod_of_nonneg (by omega), hp3i, IntKind.wrap_i64]
      omega
    have hB : IntKind.u16.wrap ((tg : Int).tmod 4) = (p4 : Int) := by
      rw [Int.tmod_eq_emod_of_nonneg (by omega), hp4i, IntKind.wrap_u16]
      omega
    have HA := Lib.hid hA
    have HB := Lib.hid hB
    have HPK := Lib.hid hpk
    have HWV := Lib.hid hwv
    have HN1 := Lib.hid (show (⟨b, q * 4 + 3, none⟩ : Addr) ≠ ⟨X, 1, none⟩ from fun e => by injection e with e1; omega)
    have HN2 := Lib.hid (show (⟨b, q * 4 + 3, none⟩ : Addr) ≠ ⟨w.heap.size, 11, none⟩ from fun e => by injection e with e1; omega)
    have HN3 := Lib.hid (show (⟨b, q * 4 + 3, none⟩ : Addr) ≠ ⟨w.heap.size, 12, none⟩ from fun e => by injection e with e1; omega)
    clear hA hB hpk hwv hbX hbB r0 r1 r2 r3 f0 f1 f2 f3 x0 x2 x3
    go_upto_region 6 with fail
    rw [hq]
    clear hq z6 z10
    go_cut [5] (fun s5 wx => s5 = .int .i64 q ∧ ∃ wd wv', Below w2.heap.size w2 wd ∧ SlAt rpStr wd wv' [signW p3 p4] ∧ wx = wd.setCell ⟨b, q * 4 + 3, none⟩ wv')
    case first =>
      go_region_held3 (fun w' => w'.cell? ⟨X, 1, none⟩ = some (.slice (some ⟨b, 0, none⟩) N ci) ∧ w'.cell? ⟨w.heap.size, 11, none⟩ = some (.int .u8 br) ∧ w'.cell? ⟨w.heap.size, 12, none⟩ = some (.int .u8 tg))
        (first | exact ⟨x1, z11, z12⟩ | exact ⟨below_cells hb' _ _ x1, below_cells hb' _ _ z11, below_cells hb' _ _ z12⟩ | exact ⟨(World.cell?_setCell_other _ _ _ _ HN1.out).trans (below_cells hb' _ _ x1), (World.cell?_setCell_other _ _ _ _ HN2.out).trans (below_cells hb' _ _ z11), (World.cell?_setCell_other _ _ _ _ HN3.out).trans (below_cells hb' _ _ z12)⟩)
        (first | (go_at_call 24; rw [HA.out, HB.out]; refine (rsign_any p3 p4 hp3 hp4 _).mono ?_; rintro e w' ⟨v', rfl, hv', hb'⟩; obtain ⟨av, cv, rfl, -, -⟩ := hv'.shape; have d3' := below_cells hb' _ _ d3; have fd3' := below_free hb' d3 fd3))
      go_wp2_with fail
      go_meet
      exact ⟨rfl, w', _, ((Below.refl w2.heap.size w2).drew).trans hb', hv', rfl⟩
    case rest =>
      rename World => wx
      obtain ⟨rfl, wd, wv', hbd, hsl, hwx⟩ := hcut
      have hbX := (HLOW.out b (.inl rfl)).2
      have hbB := (HLOW.out b (.inl rfl)).1
      have hx3 : wx.heap[X]? = some (.cells #[.int .u32 ver, .slice (some ⟨b, 0, none⟩) N ci, .slice ao M co, .int .u32 lock] 27 (0, 0)) := by
        rw [hwx, Below.heap_setCell _ _ _ _ (by dsimp only; omega)]
        exact kept_at HX2.out hbd
      have hr3 : wx.heap[w.heap.size + 1]? = some (.cells #[.int .u32 0, .slice none 0 0, .slice none 0 0, .int .u32 0] 27 (0, 0)) := by
        rw [hwx, Below.heap_setCell _ _ _ _ (by dsimp only; omega)]
        exact kept_at HR2.out hbd
      have hlie : InsLie wx b (ps.set q (⟨x.id, x.idx, x.seq, [signW p3 p4]⟩, wv')) := by
        rw [hwx]
        exact (HI2.out.lie.below hbd).set HPK.out hsl HWV.out
      have hout : OutsOwn (w.heap.size + 2) wx (.slice ao M co) outs := by
        rw [hwx]
        refine (HO2.out.below hbd).kept fun k e => Below.heap_setCell _ _ _ _ ?_
        intro e'
        exact HAPP.out k e (.inl (by rw [e']; rfl))
      have hbel : Below w.heap.size w wx := by
        rw [hwx]
        exact (HB2.out.trans (hbd.mono HB2.out.size)).setCell (by dsimp only; omega) _
      have x0' : wx.cell? ⟨X, 0, none⟩ = some (.int .u32 ver) := cell_at hx3
      have x1' : wx.cell? ⟨X, 1, none⟩ = some (.slice (some ⟨b, 0, none⟩) N ci) := cell_at hx3
      have x2' : wx.cell? ⟨X, 2, none⟩ = some (.slice ao M co) := cell_at hx3
      have x3' : wx.cell? ⟨X, 3, none⟩ = some (.int .u32 lock) := cell_at hx3
      have r0' : wx.cell? ⟨w.heap.size + 1, 0, none⟩ = some (.int .u32 0) := cell_at hr3
      have r1' : wx.cell? ⟨w.heap.size + 1, 1, none⟩ = some (.slice none 0 0) := cell_at hr3
      have r2' : wx.cell? ⟨w.heap.size + 1, 2, none⟩ = some (.slice none 0 0) := cell_at hr3
      have r3' : wx.cell? ⟨w.heap.size + 1, 3, none⟩ = some (.int .u32 0) := cell_at hr3
      have f0' : wx.frozen? ⟨w.heap.size + 1, 0, none⟩ = false := free_at hr3
      have f1' : wx.frozen? ⟨w.heap.size + 1, 1, none⟩ = false := free_at hr3
      have f2' : wx.frozen? ⟨w.heap.size + 1, 2, none⟩ = false := free_at hr3
      have f3' : wx.frozen? ⟨w.heap.size + 1, 3, none⟩ = false := free_at hr3
      have hns : ∀ j s, wx.cell? ⟨w.heap.size + 1, j, none⟩ ≠ some (.string s) := by
        intro j s e
        rw [cell_at hr3] at e
        match j, e with
        | 0, e => cases e
        | 1, e => cases e
        | 2, e => cases e
        | 3, e => cases e
        | n + 4, e => cases e
      have HFIN : SpendIs w (.returned (.tuple #[.agg #[.int .u32 ver, .slice (some ⟨b, 0, none⟩) N ci, .slice ao M co, .int .u32 lock], .int .i64 q])) ((((wx.setCell ⟨w.heap.size + 1, 0, none⟩ (.int .u32 ver)).setCell ⟨w.heap.size + 1, 1, none⟩ (.slice (some ⟨b, 0, none⟩) N ci)).setCell ⟨w.heap.size + 1, 2, none⟩ (.slice ao M co)).setCell ⟨w.heap.size + 1, 3, none⟩ (.int .u32 lock)) :=
        ⟨_, ⟨ver, (ps.set q (⟨x.id, x.idx, x.seq, [signW p3 p4]⟩, wv')).map (·.1), outs, lock⟩, q, rfl, ⟨_, _, rfl, (hlie.kept (B := w.heap.size + 1) (by omega) (fun p hp => four_stores _ _ _ _ _ _ p hp) hns).sl (by rw [List.length_set]; exact HNN.out.symm) HCI.out.1 HCI.out.2, (hout.kept fun k e => four_blocks _ _ _ _ _ _ _ (by have := (hout.row.lt k e).1; omega)).sl, HVL.out.1, HVL.out.2⟩, HQI.out, four_below hbel _ (by omega) _ _ _ _⟩
      have HFIN2 := Lib.hid HFIN
      clear hwx hbd hsl hx3 hr3 hlie hout hbel hns HFIN d3 fd3 x1
      go_wp2
      exact bodyPost_ret (v := .tuple #[.agg #[.int .u32 ver, .slice (some ⟨b, 0, none⟩) N ci, .slice ao M co, .int .u32 lock], .int .i64 q]) (by simp [results, Try.results10, go_sem, r0', r1', r2', r3']) rfl HFIN2.out

end Go.Proofs.Ytiicigpndagecaa
