/-
  kedgeref26.Make, as the laws call it; small records, as they are handed in. Conditions: the small record lies in memory.
-/
import Derived.Test.YtaooibocknemkaaEw2
import Derived.Test.YtaooibocknemkaaEz1
import Derived.Test.YtaooibocknemkaaEx
namespace Go.Proofs.Ytaooibocknemkaa
open Go.RowKit Go.BigFrame
set_option linter.unusedVariables false
set_option linter.unusedSimpArgs false
set_option maxRecDepth 100000 in
def SmlV (w : World) (v : Value) (z : PSml) : Prop := ∃ va vb vc vd, v = .agg (smlCells z va vb vc vd).toArray ∧ SlAt rpIn w va z.tx.ins ∧ SlAt rpOut w vb z.tx.outs ∧ SlAt rpIn w vc z.raw.tx.ins ∧ SlAt rpOut w vd z.raw.tx.outs ∧ z.Ok
set_option maxRecDepth 100000 in
theorem open_smlv {H : Type} {enc : TypeId × Value → H} {w : World} {v : Value} {d : DataW H} {ps : List MemPlace} (hv : Value.okWide Try.prog w .any 0 40 v) (h : DataW.Trod enc Try.prog w 0 (fun _ => true) true 40 v d ps) : ∃ z, SmlV w v z := by
  obtain ⟨z, va, vb, vc, vd, h1, h2, h3, h4, h5, h6⟩ := open_sml hv h
  exact ⟨z, va, vb, vc, vd, h1, h2, h3, h4, h5, h6⟩
set_option maxRecDepth 100000 in
theorem SmlV.below {w w' : World} {v : Value} {z : PSml} (h : SmlV w v z) (hb : Below w.heap.size w w') : SmlV w' v z := by
  obtain ⟨va, vb, vc, vd, h1, h2, h3, h4, h5, h6⟩ := h
  exact ⟨va, vb, vc, vd, h1, h2.below hb, h3.below hb, h4.below hb, h5.below hb, h6⟩
set_option maxRecDepth 100000 in
theorem rmake_any (v : Value) (z : PSml) (w : World) (h : SmlV w v z) : Calls Try.prog 10 #[v] w (MakeIs w) := by
  obtain ⟨va, vb, vc, vd, rfl, h2, h3, h4, h5, h6⟩ := h
  cases ho : z.odd with
  | true => exact rmake_odd z va vb vc vd w h2 h3 h4 h5 h6 ho
  | false => exact rmake_even z va vb vc vd w h2 h3 h4 h5 h6 ho
theorem put_none_ (a : Act) (v : Value) : a.put none v = a := rfl
theorem outs_of_check {r : PRec} (h : checkR r = 0) : r.tx.outs.length ≤ 1000 := by
  obtain ⟨hk, ho, hr⟩ := checkR_zero h
  by_cases k1 : r.kind = 1
  · have h1 := (counts_parts (whole_of (hr.com k1).1).counts).1
    omega
  · have h2 := ((own_at ho).1 k1).1
    rw [h2]
    exact Nat.zero_le _
theorem putE_zero {r : PRec} (h : checkR r = 0) : (putE r).data.toList = putL r := by
  unfold putE
  rw [if_pos h]
  simp [bL]
theorem extract_take (s : ByteArray) (n : Nat) : (s.extract 0 n).data.toList = s.data.toList.take n := by simp
end Go.Proofs.Ytaooibocknemkaa
