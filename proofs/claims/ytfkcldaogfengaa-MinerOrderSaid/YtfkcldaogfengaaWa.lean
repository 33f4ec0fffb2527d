/-
  A transaction's bytes, as plain functions. Conditions: none.
-/
import Derived.Test.YtfkcldaogfengaaTxWh
import Derived.Test.YtfkcldaogfengaaOct
namespace Go.Proofs.Ytfkcldaogfengaa
open Go.RowKit Go.BigFrame
set_option linter.unusedVariables false
set_option linter.unusedSimpArgs false

def bL (l : List UInt8) : ByteArray := ⟨l.toArray⟩
theorem bL_size (l : List UInt8) : (bL l).size = l.length := mk_size l
theorem bL_app (l m : List UInt8) : bL l ++ bL m = bL (l ++ m) := mk_mk l m
theorem bL_app' (l : List UInt8) (s : ByteArray) : bL l ++ s = bL (l ++ s.data.toList) := mk_append l s
theorem bL_data (s : ByteArray) : bL s.data.toList = s := mk_data s
theorem bL_list (l : List UInt8) : (bL l).data.toList = l := by simp [bL]
def vintL (n : Nat) : List UInt8 := if n < 253 then leB n 1 else if n < 65536 then leB 253 1 ++ leB n 2 else if n < 4294967296 then leB 254 1 ++ leB n 4 else leB 255 1 ++ leB n 8
theorem vintL_le (n : Nat) : (vintL n).length ≤ 9 := by
  unfold vintL
  split
  · rw [leB_length]; omega
  · split
    · rw [List.length_append, leB_length, leB_length]; omega
    · split
      · rw [List.length_append, leB_length, leB_length]; omega
      · rw [List.length_append, leB_length, leB_length]; omega
def sizedL (s : ByteArray) : List UInt8 := vintL s.size ++ s.data.toList
def inB (x : PIn) : List UInt8 := x.id.data.toList ++ leB x.idx 4 ++ vintL 0 ++ leB x.seq 4
def outB (x : POut) : List UInt8 := leB x.val.toNat 8 ++ sizedL x.script
def witB (x : PIn) : List UInt8 := vintL x.wit.length ++ x.wit.flatMap sizedL
def markL (b : Bool) : List UInt8 := if b then [0, 1] else []
def witsL (b : Bool) (l : List PIn) : List UInt8 := if b then l.flatMap witB else []
def encL (t : PTx) (b : Bool) : List UInt8 := leB t.ver 4 ++ markL b ++ vintL t.ins.length ++ t.ins.flatMap inB ++ vintL t.outs.length ++ t.outs.flatMap outB ++ witsL b t.ins ++ leB t.lock 4
def witOf (t : PTx) : Bool := t.ins.any fun x => decide (0 < x.wit.length)

/-- What is known of a transaction that may be. -/
structure Enc (t : PTx) : Prop where
  ins : t.ins.length ≤ 256
  outs : t.outs.length ≤ 256
  ids : ∀ x ∈ t.ins, x.id.size = 32 ∧ x.wit.length ≤ 4 ∧ ∀ s ∈ x.wit, s.size ≤ 80
  vals : ∀ x ∈ t.outs, (0 ≤ x.val ∧ x.val ≤ 2100000000000000) ∧ x.script.size ≤ 40
theorem sum_good : ∀ (l : List Int) (s : Int), (sumA s l).2 = 0 → ∀ a ∈ l, 0 ≤ a ∧ a ≤ 2100000000000000
  | [], s, h, a, ha => by simp at ha
  | b :: r, s, h, a, ha => by
    rw [sumA] at h
    by_cases hg : (goodA b && goodA (s + b)) = true
    · rw [if_pos hg] at h
      rcases List.mem_cons.1 ha with rfl | ha
      · exact (goodA_iff a).1 (Bool.and_eq_true _ _ ▸ hg).1
      · exact sum_good r (s + b) h a ha
    · rw [if_neg hg] at h
      exact absurd h (by decide)
theorem enc_of {t : PTx} (h : Whole t) : Enc t := by
  obtain ⟨hc, hw⟩ := counts_parts h.counts
  obtain ⟨hl1, hl2⟩ := long_parts h.long
  have hf := formed_parts h.formed
  refine ⟨hc.2.1, hc.2.2.2, fun x hx => ⟨(hf x hx).1, ?_, fun s hs => ?_⟩, fun x hx => ⟨?_, ?_⟩⟩
  · have := List.any_eq_false.1 hw x hx
    simpa using this
  · have h1 := List.any_eq_false.1 hl2 x hx
    unfold longIn at h1
    rw [Bool.not_eq_true, List.any_eq_false] at h1
    have h2 := h1 s hs
    simpa using h2
  · exact sum_good _ 0 h.sum x.val (List.mem_map.2 ⟨x, hx, rfl⟩)
  · have := List.any_eq_false.1 hl1 x hx
    simpa using this
theorem flat_le {α : Type} (f : α → List UInt8) (c : Nat) : ∀ (l : List α), (∀ x ∈ l, (f x).length ≤ c) → (l.flatMap f).length ≤ l.length * c
  | [], _ => by simp
  | x :: r, h => by
    rw [List.flatMap_cons, List.length_append, List.length_cons, Nat.add_mul]
    have h1 := h x (List.mem_cons_self ..)
    have h2 := flat_le f c r fun y hy => h y (List.mem_cons_of_mem _ hy)
    omega
theorem inB_le {x : PIn} (h : x.id.size = 32) : (inB x).length ≤ 60 := by
  unfold inB
  have := vintL_le 0
  simp only [List.length_append, leB_length, data_len]
  omega
theorem sizedL_le (s : ByteArray) : (sizedL s).length ≤ 9 + s.size := by
  unfold sizedL
  have := vintL_le s.size
  rw [List.length_append, data_len]
  omega
theorem outB_le {x : POut} (h : x.script.size ≤ 40) : (outB x).length ≤ 60 := by
  unfold outB
  have := sizedL_le x.script
  rw [List.length_append, leB_length]
  omega
theorem witB_le {x : PIn} (h : x.wit.length ≤ 4 ∧ ∀ s ∈ x.wit, s.size ≤ 80) : (witB x).length ≤ 400 := by
  unfold witB
  have h1 := vintL_le x.wit.length
  have h2 := flat_le sizedL 89 x.wit fun s hs => by have := sizedL_le s; have := h.2 s hs; omega
  rw [List.length_append]
  have : x.wit.length * 89 ≤ 356 := by omega
  omega
theorem flat_take {α : Type} (f : α → List UInt8) {l : List α} {k : Nat} {x : α} (h : l[k]? = some x) : (l.take (k + 1)).flatMap f = (l.take k).flatMap f ++ f x := by
  rw [List.take_add_one, h]
  simp
theorem flat_take_le {α : Type} (f : α → List UInt8) (c : Nat) (l : List α) (k : Nat) (h : ∀ x ∈ l, (f x).length ≤ c) : ((l.take k).flatMap f).length ≤ l.length * c := by
  refine Nat.le_trans (flat_le f c _ fun x hx => h x (List.mem_of_mem_take hx)) (Nat.mul_le_mul_right c ?_)
  rw [List.length_take]
  omega
end Go.Proofs.Ytfkcldaogfengaa
