/-
  kedgeref05.ID and kedgeref05.Fit: a transaction of which the parts may be, in memory of its own. Conditions: none beyond each theorem's own.
-/
import Derived.Test.YtelindgnkpfkiaaGreatDoorCut
import Derived.Test.YtelindgnkpfkiaaGreatDoorQ1CheckFeesCard
namespace Go.Proofs.YtelindgnkpfkiaaGreatDoor
open Go.RowKit Go.BigFrame
set_option linter.unusedVariables false
set_option linter.unusedSimpArgs false

/-- An In that may be; an Out that may be. -/
structure FitIn (x : PIn) : Prop where
  id : x.id.size = 32
  len : x.wit.length ≤ 4
  wit : ∀ s ∈ x.wit, s.size ≤ 80
structure FitOut (x : POut) : Prop where
  val : 0 ≤ x.val ∧ x.val < 100000000000000
  script : x.script.size ≤ 40
structure Fitted (t : PTx) : Prop where
  ins : ∀ x ∈ t.ins, FitIn x
  outs : ∀ x ∈ t.outs, FitOut x
  few : t.ins.length ≤ 8 ∧ t.outs.length ≤ 8

/-- What stands while a transaction is being made to fit. -/
structure FW (w : World) (X : Nat) (ver lock : Nat) (vi vo : Value) (ps : List (PIn × Value)) (outs : List POut) (wr : World) : Prop where
  bel : Below w.heap.size w wr
  r : wr.heap[w.heap.size + 1]? = some (.cells #[.int .u32 0, .slice none 0 0, .slice none 0 0, .int .u32 0] 35 (0, 0))
  u : wr.heap[X]? = some (.cells #[.int .u32 ver, vi, vo, .int .u32 lock] 35 (0, 0))
  ins : InsOwn (w.heap.size + 2) wr vi ps
  outs : OutsOwn (w.heap.size + 2) wr vo outs
  apart : ∀ b, vo.ownBlock = some b → ¬ InsHas vi ps b
  lowi : ∀ b, InsHas vi ps b → b < X
  lowo : ∀ b, vo.ownBlock = some b → b < X
  le : w.heap.size + 2 ≤ X

theorem insHas_set {v : Value} {ps : List (PIn × Value)} {i : Nat} {p p' : PIn × Value} (hi : ps[i]? = some p) (he : p'.2.ownBlock = p.2.ownBlock) {b : Nat} (h : InsHas v (ps.set i p') b) : InsHas v ps b := by
  rcases h with h | ⟨j, q, hq, hb⟩
  · exact .inl h
  · by_cases hj : j = i
    · subst hj
      rw [List.getElem?_set_self (List.getElem?_eq_some_iff.1 hi).1] at hq
      obtain rfl := Option.some.inj hq
      exact .inr ⟨j, p, hi, by rw [← he]; exact hb⟩
    · rw [List.getElem?_set_ne (Ne.symm hj)] at hq
      exact .inr ⟨j, q, hq, hb⟩

theorem FW.next {w : World} {X ver lock : Nat} {vi vo : Value} {ps : List (PIn × Value)} {outs : List POut} {wr w' : World} (h : FW w X ver lock vi vo ps outs wr) (hb : Below wr.heap.size wr w') : FW w X ver lock vi vo ps outs w' :=
  ⟨h.bel.trans (hb.mono h.bel.size), (hb.block _ (Array.getElem?_eq_some_iff.1 h.r).1).trans h.r, (hb.block _ (Array.getElem?_eq_some_iff.1 h.u).1).trans h.u, h.ins.below hb, h.outs.below hb, h.apart, h.lowi, h.lowo, h.le⟩

/-- A cell of an In is written. -/
theorem FW.set {w : World} {X ver lock b n c : Nat} {vo : Value} {ps : List (PIn × Value)} {outs : List POut} {wr : World} (h : FW w X ver lock (.slice (some ⟨b, 0, none⟩) n c) vo ps outs wr) {i : Nat} {p p' : PIn × Value} (hi : ps[i]? = some p) (j : Nat) (u : Value) (hj : j < 4) (hs : (inRow p).set j u = inRow p')
    (hw : wr.ownsRow (w.heap.size + 2) 9 1 p'.2 p'.1.wit.length (strCells p'.1.wit)) (hok : OkIn p'.1) (hb : p'.2.ownBlock = p.2.ownBlock) :
    FW w X ver lock (.slice (some ⟨b, 0, none⟩) n c) vo (ps.set i p') outs (wr.setCell ⟨b, i * 4 + j, none⟩ u) := by
  have hbi : w.heap.size + 2 ≤ b ∧ b < X := ⟨(h.ins.lt (.inl rfl)).1, h.lowi b (.inl rfl)⟩
  refine ⟨h.bel.setCell (by dsimp only; omega) _, ?_, ?_, h.ins.set hi j u hj hs hw hok (.inl hb), ?_, fun b' e hh => h.apart b' e (insHas_set hi hb hh), fun b' hh => h.lowi b' (insHas_set hi hb hh), h.lowo, h.le⟩
  · exact (Below.heap_setCell _ _ _ _ (by dsimp only; omega)).trans h.r
  · exact (Below.heap_setCell _ _ _ _ (by dsimp only; omega)).trans h.u
  · exact h.outs.kept fun b' e => Below.heap_setCell _ _ _ _ (fun e' => h.apart b' e (.inl (by rw [e']; rfl)))

theorem FW.setStr {w : World} {X ver lock : Nat} {vi vo : Value} {ps : List (PIn × Value)} {outs : List POut} {wr : World} (h : FW w X ver lock vi vo ps outs wr) {i : Nat} {x : PIn} {B l c : Nat} (hi : ps[i]? = some (x, .slice (some ⟨B, 0, none⟩) l c)) {k : Nat} (hk : k < x.wit.length) (s : ByteArray) (hs : s.size ≤ maxLen) :
    FW w X ver lock vi vo (ps.set i ({ x with wit := x.wit.set k s }, .slice (some ⟨B, 0, none⟩) l c)) outs (wr.setCell ⟨B, k, none⟩ (.string s)) := by
  have hB : InsHas vi ps B := .inr ⟨i, _, hi, rfl⟩
  have hbi : w.heap.size + 2 ≤ B ∧ B < X := ⟨(h.ins.lt hB).1, h.lowi B hB⟩
  refine ⟨h.bel.setCell (by dsimp only; omega) _, ?_, ?_, h.ins.setStr hi hk s hs, ?_, fun b' e hh => h.apart b' e (insHas_set (p' := ({ x with wit := x.wit.set k s }, .slice (some ⟨B, 0, none⟩) l c)) hi rfl hh), fun b' hh => h.lowi b' (insHas_set (p' := ({ x with wit := x.wit.set k s }, .slice (some ⟨B, 0, none⟩) l c)) hi rfl hh), h.lowo, h.le⟩
  · exact (Below.heap_setCell _ _ _ _ (by dsimp only; omega)).trans h.r
  · exact (Below.heap_setCell _ _ _ _ (by dsimp only; omega)).trans h.u
  · exact h.outs.kept fun b' e => Below.heap_setCell _ _ _ _ (fun e' => h.apart b' e (e' ▸ hB))

theorem FW.setOut {w : World} {X ver lock b n c : Nat} {vi : Value} {ps : List (PIn × Value)} {outs : List POut} {wr : World} (h : FW w X ver lock vi (.slice (some ⟨b, 0, none⟩) n c) ps outs wr) {i : Nat} {x x' : POut} (hi : outs[i]? = some x) (j : Nat) (u : Value) (hj : j < 2) (hs : (outRow x).set j u = outRow x') (hok : OkOut x') :
    FW w X ver lock vi (.slice (some ⟨b, 0, none⟩) n c) ps (outs.set i x') (wr.setCell ⟨b, i * 2 + j, none⟩ u) := by
  have hbi : w.heap.size + 2 ≤ b ∧ b < X := ⟨(h.outs.row.lt b rfl).1, h.lowo b rfl⟩
  refine ⟨h.bel.setCell (by dsimp only; omega) _, ?_, ?_, ?_, h.outs.set hi j u hj hs hok, h.apart, h.lowi, h.lowo, h.le⟩
  · exact (Below.heap_setCell _ _ _ _ (by dsimp only; omega)).trans h.r
  · exact (Below.heap_setCell _ _ _ _ (by dsimp only; omega)).trans h.u
  · exact h.ins.store _ _ (fun hh => h.apart b rfl hh)

theorem ownsRow_strAt {w : World} {base n c : Nat} {a : Option Addr} {l : List ByteArray} (h : w.ownsRow base 9 1 (.slice a n c) n (strCells l)) {j : Nat} {s : ByteArray} (hj : l[j]? = some s) : ∃ b, a = some ⟨b, 0, none⟩ ∧ w.cell? ⟨b, j, none⟩ = some (.string s) ∧ w.frozen? ⟨b, j, none⟩ = false := by
  have hl : l.length = n := by have := h.1; simpa [strCells] using this
  obtain ⟨b, rfl, -, -⟩ := ownsRow_some h (by have := (List.getElem?_eq_some_iff.1 hj).1; omega)
  refine ⟨b, rfl, ?_, ownsRow_free h j⟩
  have := h.cells (g := b) rfl j (.string s) (by simp [strCells, hj])
  rw [Addr.add_lit] at this
  simpa using this

/-! ### ID -/
def idByte (n : Int) (i : Nat) : Int := bits .xor .u8 (n / 2 ^ (i % 8) % 256) i
theorem wrap_u8_range (m : Int) : 0 ≤ IntKind.u8.wrap m ∧ IntKind.u8.wrap m < 256 := by
  rw [IntKind.wrap_u8]
  exact ⟨Int.emod_nonneg _ (by decide), Int.emod_lt_of_pos _ (by decide)⟩
theorem idByte_range (n : Int) (i : Nat) : 0 ≤ idByte n i ∧ idByte n i < 256 := wrap_u8_range _
def idL (n : Int) (k : Nat) : List UInt8 := (List.range k).map fun i => UInt8.ofNat (idByte n i).toNat
theorem idL_len (n : Int) (k : Nat) : (idL n k).length = k := by simp [idL]
theorem idL_succ (n : Int) (k : Nat) : idL n (k + 1) = idL n k ++ [UInt8.ofNat (idByte n k).toNat] := by simp [idL, List.range_succ]
def idB (n : Int) : ByteArray := ⟨(idL n 32).toArray⟩
theorem idB_size (n : Int) : (idB n).size = 32 := by rw [idB, mk_size, idL_len]

set_option maxRecDepth 100000 in
set_option maxHeartbeats 1000000 in
theorem id_any (n : Int) (w : World) : Calls Tryz.prog 12 #[.int .i64 n] w fun e w' => e = .returned (.string (idB n)) ∧ Below w.heap.size w w' := by
  go_enter Tryz.func12, Tryz.ntmps12
  go_wp2_with fail
  go_loopw [3, 4] (fun out i wr => ∃ k : Nat, k ≤ 32 ∧ i = .int .i64 k ∧ Below w.heap.size w wr ∧ out = .string ⟨(idL n k).toArray⟩) (fun _ i _ => 32 - (intOf i).toNat)
  case atStart => exact ⟨0, by omega, rfl, Below.refl _ _, rfl⟩
  case round =>
    obtain ⟨k, hk, rfl, hbw, rfl⟩ := hrel
    have HBW := Lib.hid hbw
    clear hbw
    by_cases hlt : k < 32
    · have hcv := convert_byte wr (idByte n k) (idByte_range n k)
      unfold idByte at hcv
      have hlen := idL_len n k
      go_wp2_with fail
      go_roundw
      case rel => exact ⟨k + 1, by omega, by go_num, HBW.out.alloc HBW.out.size _, by rw [idL_succ]; simp [idByte, mk_mk]⟩
      case measure => simp [intOf]; omega
    · obtain rfl : k = 32 := by omega
      go_wp2
      go_ret
      exact ⟨rfl, HBW.out⟩


def FitIs (w : World) (e : Ending) (w' : World) : Prop := ∃ v t, e = .returned v ∧ TxOwn w.heap.size w' v t ∧ Fitted t ∧ Below w.heap.size w w'

/-- The first so many Ins are as they may be. -/
def DoneIn (i : Nat) (ps : List (PIn × Value)) : Prop := ∀ (j : Nat) (p : PIn × Value), ps[j]? = some p → j < i → FitIn p.1
theorem DoneIn.set {i : Nat} {ps : List (PIn × Value)} (h : DoneIn i ps) (p : PIn × Value) : DoneIn i (ps.set i p) := by
  intro j q hq hj
  rw [List.getElem?_set_ne (by omega)] at hq
  exact h j q hq hj
theorem set_same {α : Type} {l : List α} {i : Nat} {a : α} (h : l[i]? = some a) : l.set i a = l := by
  obtain ⟨h1, h2⟩ := List.getElem?_eq_some_iff.1 h
  rw [← h2]
  exact List.set_getElem_self h1
def DoneOut (i : Nat) (os : List POut) : Prop := ∀ (j : Nat) (p : POut), os[j]? = some p → j < i → FitOut p
theorem DoneOut.set {i : Nat} {os : List POut} (h : DoneOut i os) (p : POut) : DoneOut i (os.set i p) := by
  intro j q hq hj
  rw [List.getElem?_set_ne (by omega)] at hq
  exact h j q hq hj

theorem DoneOut.step {i : Nat} {os : List POut} (h : DoneOut i os) {p : POut} (hp : FitOut p) : DoneOut (i + 1) (os.set i p) := by
  intro j q hq hj
  by_cases hji : j = i
  · subst hji
    rw [List.getElem?_set_self (by have := (List.getElem?_eq_some_iff.1 hq).1; simpa using this)] at hq
    obtain rfl := Option.some.inj hq
    exact hp
  · rw [List.getElem?_set_ne (Ne.symm hji)] at hq
    exact h j q hq (by omega)

theorem FW.start {w w1 : World} {ver lock : Nat} {va vb vi vo : Value} {l lk : Value} {ps : List (PIn × Value)} {outs : List POut}
    (hi : InsOwn (w.heap.size + 2) w1 vi ps) (ho : OutsOwn (w.heap.size + 2) w1 vo outs) (ha : ∀ b, vo.ownBlock = some b → ¬ InsHas vi ps b)
    (hb : Below (w.heap.size + 2) ((w.alloc (.cells #[l, va, vb, lk] 35)).alloc (.cells #[.int .u32 0, .slice none 0 0, .slice none 0 0, .int .u32 0] 35)) w1) :
    FW w w1.heap.size ver lock vi vo ps outs (w1.alloc (.cells #[.int .u32 ver, vi, vo, .int .u32 lock] 35)) := by
  have s1 : (w.alloc (.cells #[l, va, vb, lk] 35)).heap.size = w.heap.size + 1 := by simp
  have s2 : ((w.alloc (.cells #[l, va, vb, lk] 35)).alloc (.cells #[.int .u32 0, .slice none 0 0, .slice none 0 0, .int .u32 0] 35)).heap.size = w.heap.size + 2 := by simp
  have hsz := hb.size
  rw [s2] at hsz
  have hb0 : Below w.heap.size w w1 := (((Below.refl _ _).alloc (Nat.le_refl _) _).alloc (by omega) _).trans (hb.mono (by omega))
  have hal : Below w1.heap.size w1 (w1.alloc (.cells #[.int .u32 ver, vi, vo, .int .u32 lock] 35)) := (Below.refl _ _).alloc (Nat.le_refl _) _
  refine ⟨hb0.trans (hal.mono hb0.size), ?_, heap_alloc_new w1 _, hi.below hal, ho.below hal, ha, fun b hh => (hi.lt hh).2, fun b e => (ho.row.lt b e).2, hsz⟩
  rw [Below.heap_alloc _ _ _ (by omega), hb.block _ (by omega), ← s1]
  exact heap_alloc_new _ _

theorem fit_is {w wz w4 : World} {X ver lock : Nat} {vi vo : Value} {ps : List (PIn × Value)} {outs : List POut} (h : FW w X ver lock vi vo ps outs wz) (hv : ver < 4294967296 ∧ lock < 4294967296) (hd : DoneIn ps.length ps) (hdo : DoneOut outs.length outs) (hf : ps.length ≤ 8 ∧ outs.length ≤ 8)
    (hk : ∀ b, w.heap.size + 2 ≤ b → w4.heap[b]? = wz.heap[b]?) (hb : Below w.heap.size w w4) : FitIs w (.returned (.agg #[.int .u32 ver, vi, vo, .int .u32 lock])) w4 := by
  refine ⟨_, ⟨ver, ps.map (·.1), outs, lock⟩, rfl, ⟨⟨vi, vo, ps, rfl, rfl, (h.ins.kept fun b hh => hk b (h.ins.lt hh).1).base (by omega), (h.outs.kept fun b e => hk b (h.outs.row.lt b e).1).base (by omega), h.apart⟩, hv.1, hv.2⟩, ⟨?_, ?_, ?_⟩, hb⟩
  · intro x hx
    obtain ⟨p, hp, rfl⟩ := List.mem_map.1 hx
    obtain ⟨j, hj, rfl⟩ := List.mem_iff_getElem.1 hp
    exact hd j _ (List.getElem?_eq_getElem hj) hj
  · intro x hx
    obtain ⟨j, hj, rfl⟩ := List.mem_iff_getElem.1 hx
    exact hdo j _ (List.getElem?_eq_getElem hj) hj
  · simpa using hf

end Go.Proofs.YtelindgnkpfkiaaGreatDoor
