/-
  rec.payload. Conditions: the record lies in memory and may be.
-/
import Derived.Test.YtaooibocknemkaaEl1
import Derived.Test.YtaooibocknemkaaEl2
import Derived.Test.YtaooibocknemkaaEl3
import Derived.Test.YtaooibocknemkaaEl4
namespace Go.Proofs.Ytaooibocknemkaa
open Go.RowKit Go.BigFrame
set_option linter.unusedVariables false
set_option linter.unusedSimpArgs false
theorem payload_any (v1 : Value) (r : PRec) (w : World) (h1 : RecAt w v1 r) (hk : kinded r) (hg : Ranged r) : Calls Try.prog 22 #[v1] w (SIs (payL r) w) := by
  by_cases k1 : r.kind = 1
  · exact pay_k1 v1 r w h1 hg k1
  by_cases k2 : r.kind = 2
  · exact pay_k2 v1 r w h1 hg k2
  by_cases k3 : r.kind = 3
  · exact pay_k3 v1 r w h1 hg k3
  by_cases k4 : r.kind = 4
  · exact pay_k4 v1 r w h1 hg k4
  exact pay_k5 v1 r w h1 hg (by have := hk.1; have := hk.2; omega)
end Go.Proofs.Ytaooibocknemkaa
