/-
  Locks, the fourteenth part: may an input be in a block? Conditions: none beyond each theorem's own.
-/
import Derived.Test.YtmakghcoehkphaaLock13
namespace Go.Proofs.Ytmakghcoehkphaa
open Go.RowKit Go.BigFrame
set_option linter.unusedVariables false

def ripeOf (t : PTx) (i c h : Int) : Bool := isIn t i && okHeight c && okHeight h && decide (c + waitsOf t i.toNat ≤ h) && (decide ((t.lock : Int) < h) || t.ins.all lastSeq)
def RipeIs (t : PTx) (i c h : Int) (w : World) (e : Ending) (w' : World) : Prop := e = .returned (.bool (ripeOf t i c h)) ∧ Below w.heap.size w w'
theorem ripe_is {t : PTx} {i c h : Int} {b : Bool} {w w' : World} (hr : ripeOf t i c h = b) (hb : Below w.heap.size w w') : RipeIs t i c h w (.returned (.bool b)) w' := by unfold RipeIs; rw [hr]; exact ⟨rfl, hb⟩
theorem tx_shape {w : World} {v : Value} {t : PTx} (h : TxAt w v t) : ∃ (a : Option Addr) (c : Nat) (au : Option Addr) (nu cu : Nat), v = .agg #[.int .u32 t.ver, .slice a t.ins.length c, .slice au nu cu, .int .u32 t.lock] ∧ t.ins.length ≤ 9223372036854775807 ∧ t.lock < 4294967296 ∧ SlAt rpIn w (.slice a t.ins.length c) t.ins := by
  obtain ⟨a, u, rfl, h1, h2, h3, h4⟩ := h
  obtain ⟨au, cu, rfl, -, -⟩ := h2.shape
  obtain ⟨a', c, rfl, hl1, hl2⟩ := h1.shape
  exact ⟨a', c, au, _, cu, rfl, by rw [maxLen_eq] at hl2; omega, h4, h1⟩

end Go.Proofs.Ytmakghcoehkphaa
