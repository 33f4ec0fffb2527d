/-
  slices.Clone of Outs and Ins, tx.Grant. Conditions: no more than a thousand elements.
-/
import Derived.Test.YtmakghcoehkphaaGreatQ4ClaimBuilds
import Derived.Test.YtmakghcoehkphaaGreatCut
import Derived.Deep.RegionHeld
import Derived.Deep.DrawnRows
namespace Go.Proofs.YtmakghcoehkphaaGreat
open Go.RowKit Go.BigFrame
set_option linter.unusedVariables false
set_option linter.unusedSimpArgs false

theorem slCells_out {w : World} {a : Option Addr} {n c : Nat} {l : List POut} (h : SlAt rpOut w (.slice a n c) l) (hn : 0 < n) : ∃ b o, a = some ⟨b, o, none⟩ ∧ (∀ j u, (outsCells l)[j]? = some u → w.cell? ⟨b, o + j, none⟩ = some u) ∧ ∀ x ∈ l, OkOut x := by
  obtain ⟨hlen, -, -⟩ := h.len
  obtain ⟨b, o, x0, rfl, -, -, -, -⟩ := h.outp hn
  refine ⟨b, o, rfl, fun j u hj => ?_, fun x hx => ?_⟩
  · have hjl : j < l.length * 2 := by have := (List.getElem?_eq_some_iff.1 hj).1; rw [outsCells_len] at this; exact this
    obtain ⟨b2, o2, x, hbo, hx, hok, d0, d1⟩ := h.outp (i := j / 2) (by omega)
    obtain ⟨rfl, rfl⟩ : b = b2 ∧ o = o2 := by simpa using hbo
    rcases Nat.mod_two_eq_zero_or_one j with hm | hm
    · have e : j = j / 2 * 2 + 0 := by omega
      have := flat_at outRow 2 outRow_len l (j / 2) x hx 0 (by omega)
      unfold outsCells at hj
      rw [e, this] at hj
      have hu : u = .int .i64 x.val := by simpa [outRow] using hj.symm
      rw [hu, ← d0]
      congr 2
      omega
    · have e : j = j / 2 * 2 + 1 := by omega
      have := flat_at outRow 2 outRow_len l (j / 2) x hx 1 (by omega)
      unfold outsCells at hj
      rw [e, this] at hj
      have hu : u = .string x.script := by simpa [outRow] using hj.symm
      rw [hu, ← d1]
      congr 2
      omega
  · obtain ⟨i, hi⟩ := List.mem_iff_getElem?.1 hx
    obtain ⟨_, _, y, _, hy, hok, _, _⟩ := h.outp (i := i) (by rw [← hlen]; exact (List.getElem?_eq_some_iff.1 hi).1)
    rw [hi] at hy
    obtain rfl := Option.some.inj hy
    exact hok
theorem outs_oneCell (l : List POut) : ∀ u ∈ outsCells l, u.oneCell' = true := by
  intro u hu
  unfold outsCells at hu
  rw [List.mem_flatMap] at hu
  obtain ⟨x, -, hx⟩ := hu
  simp [outRow] at hx
  rcases hx with rfl | rfl <;> rfl

/-- A copy of Outs in a row of the call's own. -/
def ClOutIs (l : List POut) (w : World) (e : Ending) (w' : World) : Prop := ∃ v, e = .returned v ∧ OutsOwn w.heap.size w' v l ∧ Below w.heap.size w w'
theorem insOwn_one {base : Nat} {w : World} {b : Nat} {x : PIn} (hx : x.wit = []) (hb : base ≤ b) (h : w.heap[b]? = some (.cells #[.string x.id, .int .u32 x.idx, .int .u32 x.seq, .slice none 0 0] 76 (0, 0))) (ho : OkIn x) :
    InsOwn base w (.slice (some ⟨b, 0, none⟩) 1 1) [(x, .slice none 0 0)] := by
  have one : ∀ (i : Nat) (p : PIn × Value), [(x, Value.slice none 0 0)][i]? = some p → p = (x, .slice none 0 0) := fun i p hp => by
    match i, hp with
    | 0, hp => exact (Option.some.inj hp).symm
  refine ⟨⟨rfl, .inr ⟨b, 1, _, rfl, hb, h, Nat.le_refl _, by rw [maxLen_eq]; omega, rfl, rfl⟩⟩, fun i p hp => ?_, fun i p hp => ?_, fun i p c hp hc => ?_, fun i j p q c hp hq hij hc => ?_⟩
  · rw [one i p hp]
    dsimp only
    rw [hx]
    exact World.ownsRow_nil _ _ _ _
  · rw [one i p hp]; exact ho
  · rw [one i p hp] at hc; cases hc
  · rw [one i p hp] at hc; cases hc
def grantTx (h : Int) (outs : List POut) : PTx := ⟨2, [⟨zeros32, 4294967295, 4294967295, []⟩], outs, (h % 4294967296).toNat⟩
def GrantIs (h : Int) (outs : List POut) (w : World) (e : Ending) (w' : World) : Prop := ∃ v, e = .returned v ∧ TxOwn w.heap.size w' v (grantTx h outs) ∧ Below w.heap.size w w'
end Go.Proofs.YtmakghcoehkphaaGreat
