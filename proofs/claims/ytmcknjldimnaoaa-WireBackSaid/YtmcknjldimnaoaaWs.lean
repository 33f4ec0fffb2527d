/-
  A transaction with other witnesses: it may be, and its bare bytes are the same. Conditions: the witnesses are not too great.
-/
import Derived.Test.YtmcknjldimnaoaaWd
import Derived.Test.YtmcknjldimnaoaaTxVs
import Derived.Test.YtmcknjldimnaoaaCut
namespace Go.Proofs.Ytmcknjldimnaoaa
open Go.RowKit Go.BigFrame
set_option linter.unusedVariables false
set_option linter.unusedSimpArgs false

def wIn (W : List ByteArray) (x : PIn) : PIn := { x with wit := W }
def setAll (W : List ByteArray) (t : PTx) : PTx := setIns t (t.ins.map (wIn W))
def smallW (W : List ByteArray) : Prop := W.length ≤ 4 ∧ ∀ s ∈ W, s.size ≤ 80
theorem all_whole {W : List ByteArray} {t : PTx} (hW : smallW W) (h : Whole t) : Whole (setAll W t) := by
  obtain ⟨hc, hw⟩ := counts_parts h.counts
  obtain ⟨hl1, hl2⟩ := long_parts h.long
  have hf := formed_parts h.formed
  refine ⟨counts_of ?_ ?_, ?_, formed_of fun x hx => ?_, ?_, h.sum⟩
  · show 1 ≤ (t.ins.map (wIn W)).length ∧ (t.ins.map (wIn W)).length ≤ 256 ∧ _
    rw [List.length_map]
    exact hc
  · refine List.any_eq_false.2 fun x hx => ?_
    obtain ⟨y, -, rfl⟩ := List.mem_map.1 hx
    have := hW.1
    simp only [decide_eq_true_eq]
    show ¬ 4 < W.length
    omega
  · unfold longOf
    rw [Bool.or_eq_false_iff]
    refine ⟨hl1, List.any_eq_false.2 fun x hx => ?_⟩
    obtain ⟨y, -, rfl⟩ := List.mem_map.1 hx
    unfold longIn
    rw [Bool.not_eq_true, List.any_eq_false]
    intro s hs
    have := hW.2 s hs
    simp only [decide_eq_true_eq]
    omega
  · obtain ⟨y, hy, rfl⟩ := List.mem_map.1 hx
    show y.id.size = 32 ∧ (isBase y.id y.idx = true → (t.ins.map (wIn W)).length ≤ 1)
    rw [List.length_map]
    exact hf y hy
  · have : ptsOf (setAll W t) = ptsOf t := by
      unfold ptsOf
      show (t.ins.map (wIn W)).map _ = _
      rw [List.map_map]; rfl
    rw [this]; exact h.dup
theorem check_whole {t : PTx} (h : Whole t) : checkOf t = 0 := (check_sum h.counts h.long h.formed h.dup).trans h.sum
theorem all_enc (W : List ByteArray) (t : PTx) : encL (setAll W t) false = encL t false := by
  unfold encL
  show leB t.ver 4 ++ markL false ++ vintL (t.ins.map (wIn W)).length ++ (t.ins.map (wIn W)).flatMap inB ++ _ ++ _ ++ _ ++ _ = _
  rw [List.length_map, List.flatMap_map]
  rfl
theorem all_nil (t : PTx) : witOf (setAll [] t) = false := by
  unfold witOf
  show (t.ins.map (wIn [])).any _ = false
  rw [List.any_map, List.any_eq_false]
  intro x hx
  simp [wIn]
theorem enc_more (t : PTx) : (encL t false).length ≤ (encL t (witOf t)).length := by
  cases h : witOf t
  · exact Nat.le_refl _
  · unfold encL
    simp only [List.length_append]
    have h1 : (markL false).length ≤ (markL true).length := by decide
    have h2 : (witsL false t.ins).length ≤ (witsL true t.ins).length := Nat.zero_le _
    omega
/-- The texts that are taken. -/
def cutW (ls : List ByteArray) : List ByteArray := (ls.take 4).map (capB 80)
theorem cutW_small (ls : List ByteArray) : smallW (cutW ls) := by
  unfold cutW smallW
  rw [List.length_map, List.length_take]
  refine ⟨by omega, fun s hs => ?_⟩
  obtain ⟨y, -, rfl⟩ := List.mem_map.1 hs
  exact capB_le 80 y
theorem cutW_step {ls : List ByteArray} {k : Nat} {s : ByteArray} (hs : ls[k]? = some s) (hk : k < 4) : (cutW ls).take (k + 1) = (cutW ls).take k ++ [capB 80 s] := by
  unfold cutW
  rw [List.take_add_one, List.getElem?_map, List.getElem?_take_of_lt hk, hs]
  rfl
theorem cutW_end {ls : List ByteArray} {k : Nat} (h : ls.length ≤ k ∨ 4 ≤ k) : (cutW ls).take k = cutW ls := by
  refine List.take_of_length_le ?_
  unfold cutW
  rw [List.length_map, List.length_take]
  omega
theorem cap_extract (s : ByteArray) (m : Nat) (h : m = min s.size 80) : s.extract 0 m = capB 80 s := by
  unfold capB
  split
  · rw [h]; congr 1; omega
  · rw [h, show min s.size 80 = s.size by omega]
    apply ByteArray.ext
    simp
/-- The first k are done. -/
def doneW (W : List ByteArray) (k : Nat) (l : List PIn) : List PIn := (l.take k).map (wIn W) ++ l.drop k
theorem doneW_zero (W : List ByteArray) (l : List PIn) : doneW W 0 l = l := rfl
theorem doneW_len (W : List ByteArray) (k : Nat) (l : List PIn) : (doneW W k l).length = l.length := by
  unfold doneW
  rw [List.length_append, List.length_map, List.length_take, List.length_drop]
  omega
theorem doneW_all {W : List ByteArray} {k : Nat} {l : List PIn} (h : l.length ≤ k) : doneW W k l = l.map (wIn W) := by
  unfold doneW
  rw [List.take_of_length_le h, List.drop_of_length_le h, List.append_nil]
theorem doneW_at {W : List ByteArray} {k : Nat} {l : List PIn} {x : PIn} (hx : l[k]? = some x) : (doneW W k l)[k]? = some x := by
  have hk := (List.getElem?_eq_some_iff.1 hx).1
  unfold doneW
  rw [List.getElem?_append_right (by rw [List.length_map, List.length_take]; omega), List.length_map, List.length_take, show k - min k l.length = 0 by omega, List.getElem?_drop]
  exact hx
theorem doneW_set {W : List ByteArray} {k : Nat} {l : List PIn} {x : PIn} (hx : l[k]? = some x) : (doneW W k l).set k (wIn W x) = doneW W (k + 1) l := by
  have hk := (List.getElem?_eq_some_iff.1 hx).1
  unfold doneW
  have h1 : ((l.take k).map (wIn W)).length = k := by rw [List.length_map, List.length_take]; omega
  rw [List.set_append_right _ _ (by omega), h1, Nat.sub_self, List.take_add_one, hx, List.drop_eq_getElem_cons hk]
  have h2 : l[k] = x := by
    have := (List.getElem?_eq_some_iff.1 hx).2
    exact this
  rw [h2]
  simp
end Go.Proofs.Ytmcknjldimnaoaa
