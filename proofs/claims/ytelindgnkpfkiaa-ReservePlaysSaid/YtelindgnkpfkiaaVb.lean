/-
  Reserves: the leases, as a map in memory, as a function from keys to points. Conditions: none beyond each theorem's own.
-/
import Derived.Test.YtelindgnkpfkiaaVa
import Derived.Maps.OwnSet
import Derived.Maps.OwnOps
import Derived.Maps.RangeWalk
import Derived.Maps.Ext
namespace Go.Proofs.Ytelindgnkpfkiaa
open Go.RowKit Go.BigFrame Go.Maps
set_option linter.unusedVariables false
set_option linter.unusedSimpArgs false

def ptDat (p : Pt) : DataW Unit := .agg [.lit (.string p.1.data.toList), .lit (.int .u32 p.2)]
/-- How a point reads. -/
def ptElem (v : Value) : Option (DataW Unit × List MemPlace) :=
  match v with
  | .agg ⟨[.string s, .int .u32 n]⟩ => if 0 ≤ n then some (.agg [.lit (.string s.data.toList), .lit (.int .u32 n)], []) else none
  | _ => none
theorem ptElem_mk (p : Pt) : ptElem (.agg #[.string p.1, .int .u32 p.2]) = some (ptDat p, []) := by
  unfold ptElem ptDat
  dsimp only
  rw [if_pos (by omega)]
theorem ptElem_inv {v : Value} {y : DataW Unit × List MemPlace} (h : ptElem v = some y) : ∃ p : Pt, v = .agg #[.string p.1, .int .u32 p.2] ∧ y = (ptDat p, []) := by
  unfold ptElem at h
  split at h
  · rename_i s n
    split at h
    · rename_i h0
      cases h
      refine ⟨(s, n.toNat), ?_, ?_⟩
      · rw [show ((n.toNat : Nat) : Int) = n by omega]
      · unfold ptDat
        rw [show ((n.toNat : Nat) : Int) = n by omega]
    · cases h
  · cases h
theorem ptDat_inj {p q : Pt} (h : ptDat p = ptDat q) : p = q := by
  unfold ptDat at h
  injection h with h
  injection h with h1 h2
  injection h2 with h2 h3
  injection h1 with h1
  injection h2 with h2
  injection h1 with h1
  injection h2 with h2 h4
  have e1 : p.1 = q.1 := by
    apply ByteArray.ext
    exact Array.toList_inj.1 h1
  have e2 : p.2 = q.2 := by omega
  exact Prod.ext e1 e2

/-- A datum is just these leases. -/
structure Agr (D : DataW Unit) (M : Int → Option Pt) : Prop where
  isMap : IsMap D
  has : ∀ k : Int, Maps.has D (.int .i64 k) = (M k).isSome
  at_ : ∀ (k : Int) (p : Pt), M k = some p → ∀ z, D.atKey (.int .i64 k) z = ptDat p
noncomputable def takenB (M : Int → Option Pt) (p : Pt) : Bool := @decide (∃ k, M k = some p) (Classical.propDecidable _)
theorem law : Keyed Try.prog 3 := int_keyed Try.underlying3
/-- A reserve in memory: its box at b, its map at m. -/
structure RsM (w : World) (b m : Nat) (script : ByteArray) (M : Int → Option Pt) (cn : Nat) : Prop where
  box : w.heap[b]? = some (.cells #[.string script, .map (some m)] 80 (0, 0))
  owns : ∃ n D, w.ownsMap Try.prog 3 ptElem m n D ∧ Agr D M ∧ n ≤ cn
  ne : b ≠ m
def putM (M : Int → Option Pt) (k : Int) (p : Option Pt) : Int → Option Pt := fun j => if j = k then p else M j
theorem key_ne {a b : Int} (h : a ≠ b) : (Lit.int .i64 a) ≠ .int .i64 b := fun e => h (by injection e)
theorem Agr.put {D : DataW Unit} {M : Int → Option Pt} (h : Agr D M) (k : Int) (p : Pt) : Agr (D.put (.int .i64 k) (ptDat p)) (putM M k (some p)) := by
  refine ⟨h.isMap.put _ _, fun j => ?_, fun j q hq z => ?_⟩
  · by_cases hj : j = k
    · subst hj
      rw [has_put_same h.isMap (by trivial)]
      simp [putM]
    · rw [has_put_other (key_ne hj), h.has]
      simp [putM, hj]
  · by_cases hj : j = k
    · subst hj
      rw [atKey_put_same h.isMap (by trivial)]
      simp [putM] at hq
      rw [hq]
    · rw [atKey_put_other (key_ne hj)]
      refine h.at_ j q ?_ z
      simpa [putM, hj] using hq
theorem Agr.del {D : DataW Unit} {M : Int → Option Pt} (h : Agr D M) (k : Int) : Agr (D.del (.int .i64 k)) (putM M k none) := by
  refine ⟨h.isMap.del _, fun j => ?_, fun j q hq z => ?_⟩
  · by_cases hj : j = k
    · subst hj
      rw [has_del_same]
      simp [putM]
    · rw [has_del_other (key_ne hj), h.has]
      simp [putM, hj]
  · by_cases hj : j = k
    · subst hj
      simp [putM] at hq
    · rw [atKey_del_other (key_ne hj)]
      refine h.at_ j q ?_ z
      simpa [putM, hj] using hq
theorem Agr.start : Agr (.map []) (fun _ => none) := ⟨isMap_empty, fun j => rfl, fun j q hq => by cases hq⟩
end Go.Proofs.Ytelindgnkpfkiaa
