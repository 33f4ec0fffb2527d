/-
  rec.ranged. Conditions: the record lies in memory, with no more than 1,000 outputs.
-/
import Derived.Test.YtaooibocknemkaaGreatEi1
import Derived.Test.YtaooibocknemkaaGreatEi2
import Derived.Test.YtaooibocknemkaaGreatEi3
namespace Go.Proofs.YtaooibocknemkaaGreat
open Go.RowKit Go.BigFrame
set_option linter.unusedVariables false
set_option linter.unusedSimpArgs false
noncomputable def rangedB (r : PRec) : Bool :=
  if r.num < 0 then false else if 2147483647 < r.num then false
  else if r.kind = 1 then (((askedB r && (checkOf r.tx == 0)) && decide (0 ≤ r.index)) && decide (r.index < (r.tx.outs.length : Int)))
  else if r.kind = 2 then (askedB r && ((r.id.size : Int) == 32))
  else if r.kind = 3 then ((r.id.size : Int) == 32)
  else if r.kind = 4 then (((((r.id.size : Int) == 32) && decide (0 ≤ r.index)) && decide (r.index ≤ 32)) && goodA r.fee)
  else true
theorem ranged_any (v1 : Value) (r : PRec) (w : World) (h1 : RecAt w v1 r) (hlen : r.tx.outs.length ≤ 1000) : Calls Tryz.prog 46 #[v1] w (BIs (rangedB r) w) := by
  unfold rangedB
  split
  · rename_i h0; exact ranged_k0 v1 r w h1 hlen h0
  · rename_i h0
    split
    · rename_i h2; exact ranged_k6 v1 r w h1 hlen h0 h2
    · rename_i h2
      split
      · rename_i k; exact ranged_k1 v1 r w h1 hlen h0 h2 k
      · rename_i k1
        split
        · rename_i k; exact ranged_k2 v1 r w h1 hlen h0 h2 k
        · rename_i k2
          split
          · rename_i k; exact ranged_k3 v1 r w h1 hlen h0 h2 k
          · rename_i k3
            split
            · rename_i k; exact ranged_k4 v1 r w h1 hlen h0 h2 k
            · rename_i k4; exact ranged_k5 v1 r w h1 hlen h0 h2 k1 k2 k3 k4
end Go.Proofs.YtaooibocknemkaaGreat
