/-
  wire.encode. Conditions: those of Enc.
-/
import Derived.Test.YtfkcldaogfengaaWb
import Derived.Test.YtfkcldaogfengaaTxH
namespace Go.Proofs.Ytfkcldaogfengaa
open Go.RowKit Go.BigFrame
set_option linter.unusedVariables false
set_option linter.unusedSimpArgs false

section
variable {w wr w' : World} {va vo : Value} {t : PTx} {L M : List UInt8}
end
/-- A box beside the builder. -/
structure XB (b X : Nat) (cs : Array Value) (T : TypeId) (wr : World) : Prop where
  box : wr.heap[X]? = some (.cells cs T (0, 0))
  ne : X ≠ b
  row : RowNot b X wr
theorem XB.lt {b X : Nat} {cs : Array Value} {T : TypeId} {wr : World} (h : XB b X cs T wr) : X < wr.heap.size := (Array.getElem?_eq_some_iff.1 h.box).1
theorem XB.keep {b X : Nat} {cs : Array Value} {T : TypeId} {wr w' : World} (h : XB b X cs T wr) (hk : BKeep b wr w') : XB b X cs T w' := by
  obtain ⟨e, r, -⟩ := hk X h.ne h.lt h.row
  exact ⟨e.trans h.box, h.ne, r⟩
theorem XB.next {b X : Nat} {cs : Array Value} {T : TypeId} {wr w' : World} (h : XB b X cs T wr) (hb : Below wr.heap.size wr w') (hlt : b < wr.heap.size) : XB b X cs T w' := h.keep (BKeep.of_below hb hlt)
def preA (t : PTx) (b : Bool) : List UInt8 := leB t.ver 4 ++ markL b ++ vintL t.ins.length
def preB (t : PTx) (b : Bool) (k : Nat) : List UInt8 := preA t b ++ (t.ins.take k).flatMap inB
def preC (t : PTx) (b : Bool) : List UInt8 := preA t b ++ t.ins.flatMap inB ++ vintL t.outs.length
def preD (t : PTx) (b : Bool) (k : Nat) : List UInt8 := preC t b ++ (t.outs.take k).flatMap outB
def preE (t : PTx) (b : Bool) : List UInt8 := preC t b ++ t.outs.flatMap outB
def preF (t : PTx) (b : Bool) (k : Nat) : List UInt8 := preE t b ++ (t.ins.take k).flatMap witB
theorem preA_le (t : PTx) (b : Bool) : (preA t b).length ≤ 20 := by
  unfold preA markL
  have := vintL_le t.ins.length
  simp only [List.length_append, leB_length]
  split <;> simp <;> omega
theorem preB_le {t : PTx} (he : Enc t) (b : Bool) (k : Nat) : (preB t b k).length ≤ 20000 := by
  unfold preB
  have h1 := preA_le t b
  have h2 := flat_take_le inB 60 t.ins k fun x hx => inB_le (he.ids x hx).1
  have := he.ins
  rw [List.length_append]
  omega
theorem preC_le {t : PTx} (he : Enc t) (b : Bool) : (preC t b).length ≤ 20000 := by
  unfold preC
  have h1 := preA_le t b
  have h2 := flat_le inB 60 t.ins fun x hx => inB_le (he.ids x hx).1
  have h3 := vintL_le t.outs.length
  have := he.ins
  simp only [List.length_append]
  omega
theorem preD_le {t : PTx} (he : Enc t) (b : Bool) (k : Nat) : (preD t b k).length ≤ 40000 := by
  unfold preD
  have h1 := preC_le he b
  have h2 := flat_take_le outB 60 t.outs k fun x hx => outB_le (he.vals x hx).2
  have := he.outs
  rw [List.length_append]
  omega
theorem preE_le {t : PTx} (he : Enc t) (b : Bool) : (preE t b).length ≤ 40000 := by
  unfold preE
  have h1 := preC_le he b
  have h2 := flat_le outB 60 t.outs fun x hx => outB_le (he.vals x hx).2
  have := he.outs
  rw [List.length_append]
  omega
theorem preF_le {t : PTx} (he : Enc t) (b : Bool) (k : Nat) : (preF t b k).length ≤ 160000 := by
  unfold preF
  have h1 := preE_le he b
  have h2 := flat_take_le witB 400 t.ins k fun x hx => witB_le (he.ids x hx).2
  have := he.ins
  rw [List.length_append]
  omega
theorem preB_step (t : PTx) (b : Bool) {k : Nat} {x : PIn} (h : t.ins[k]? = some x) : preB t b k ++ x.id.data.toList ++ leB x.idx 4 ++ vintL 0 ++ leB x.seq 4 = preB t b (k + 1) := by
  unfold preB
  rw [flat_take inB h]
  simp [inB, List.append_assoc]
theorem preB_zero (t : PTx) (b : Bool) : preB t b 0 = preA t b := by simp [preB]
theorem preB_full (t : PTx) (b : Bool) : preB t b t.ins.length ++ vintL t.outs.length = preC t b := by simp [preB, preC]
theorem preD_step (t : PTx) (b : Bool) {k : Nat} {x : POut} (h : t.outs[k]? = some x) : preD t b k ++ leB x.val.toNat 8 ++ sizedL x.script = preD t b (k + 1) := by
  unfold preD
  rw [flat_take outB h]
  simp [outB, List.append_assoc]
theorem preD_zero (t : PTx) (b : Bool) : preD t b 0 = preC t b := by simp [preD]
theorem preD_full (t : PTx) (b : Bool) : preD t b t.outs.length = preE t b := by simp [preD, preE]
theorem preF_zero (t : PTx) (b : Bool) : preF t b 0 = preE t b := by simp [preF]
theorem preF_step (t : PTx) (b : Bool) {k : Nat} {x : PIn} (h : t.ins[k]? = some x) : preF t b k ++ vintL x.wit.length ++ x.wit.flatMap sizedL = preF t b (k + 1) := by
  unfold preF
  rw [flat_take witB h]
  simp [witB, List.append_assoc]
theorem preF_full (t : PTx) : preF t true t.ins.length ++ leB t.lock 4 = encL t true := by simp [preF, preE, preC, preA, encL, witsL, List.append_assoc]
theorem preE_full (t : PTx) : preE t false ++ leB t.lock 4 = encL t false := by simp [preE, preC, preA, encL, witsL, List.append_assoc]
theorem leB_01 : leB 0 1 ++ leB 1 1 = [0, 1] := by decide

end Go.Proofs.Ytfkcldaogfengaa
