/-
  tx.Check. Conditions: no more than a thousand Outs.
-/
import Derived.Test.YtfkcldaogfengaaTxM
namespace Go.Proofs.Ytfkcldaogfengaa
open Go.RowKit Go.BigFrame
set_option linter.unusedVariables false
set_option linter.unusedSimpArgs false

def sumOf (t : PTx) : Int × Int := sumA 0 (t.outs.map (·.val))
noncomputable def checkOf (t : PTx) : Int := if countsOf t then (if longOf t then 20 else if formedOf t then (if dup (ptsOf t) then 7 else (sumOf t).2) else 4) else 6
def CIs (c : Int) (w : World) (e : Ending) (w' : World) : Prop := e = .returned (.int .i64 c) ∧ Below w.heap.size w w'

theorem TB.tx {w : World} {va vo : Value} {t : PTx} {wr : World} (h : TB w va vo t wr) (hv : t.ver < 4294967296 ∧ t.lock < 4294967296) : TxAt wr (.agg #[.int .u32 t.ver, va, vo, .int .u32 t.lock]) t :=
  ⟨va, vo, rfl, h.ins, h.outs, hv.1, hv.2⟩

end Go.Proofs.Ytfkcldaogfengaa
