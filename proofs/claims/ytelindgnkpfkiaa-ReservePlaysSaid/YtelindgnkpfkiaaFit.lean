/-
  kedgeref05.ID and kedgeref05.Fit: a transaction of which the parts may be, in memory of its own. Conditions: none beyond each theorem's own.
-/
import Derived.Test.YtelindgnkpfkiaaCut
import Derived.Test.YtelindgnkpfkiaaConv
import Derived.Test.YtelindgnkpfkiaaTail
namespace Go.Proofs.Ytelindgnkpfkiaa
open Go.RowKit Go.BigFrame
set_option linter.unusedVariables false
set_option linter.unusedSimpArgs false

/-- An In that may be; an Out that may be. -/
structure FitIn (x : PIn) : Prop where
  id : x.id.size = 32
  len : x.wit.length ≤ 4
  wit : ∀ s ∈ x.wit, s.size ≤ 80
structure FitOut (x : POut) : Prop where
  val : 0 ≤ x.val ∧ x.val < 100000000000000
  script : x.script.size ≤ 40
structure Fitted (t : PTx) : Prop where
  ins : ∀ x ∈ t.ins, FitIn x
  outs : ∀ x ∈ t.outs, FitOut x
  few : t.ins.length ≤ 8 ∧ t.outs.length ≤ 8

theorem insHas_set {v : Value} {ps : List (PIn × Value)} {i : Nat} {p p' : PIn × Value} (hi : ps[i]? = some p) (he : p'.2.ownBlock = p.2.ownBlock) {b : Nat} (h : InsHas v (ps.set i p') b) : InsHas v ps b := by
  rcases h with h | ⟨j, q, hq, hb⟩
  · exact .inl h
  · by_cases hj : j = i
    · subst hj
      rw [List.getElem?_set_self (List.getElem?_eq_some_iff.1 hi).1] at hq
      obtain rfl := Option.some.inj hq
      exact .inr ⟨j, p, hi, by rw [← he]; exact hb⟩
    · rw [List.getElem?_set_ne (Ne.symm hj)] at hq
      exact .inr ⟨j, q, hq, hb⟩

theorem ownsRow_strAt {w : World} {base n c : Nat} {a : Option Addr} {l : List ByteArray} (h : w.ownsRow base 9 1 (.slice a n c) n (strCells l)) {j : Nat} {s : ByteArray} (hj : l[j]? = some s) : ∃ b, a = some ⟨b, 0, none⟩ ∧ w.cell? ⟨b, j, none⟩ = some (.string s) ∧ w.frozen? ⟨b, j, none⟩ = false := by
  have hl : l.length = n := by have := h.1; simpa [strCells] using this
  obtain ⟨b, rfl, -, -⟩ := ownsRow_some h (by have := (List.getElem?_eq_some_iff.1 hj).1; omega)
  refine ⟨b, rfl, ?_, ownsRow_free h j⟩
  have := h.cells (g := b) rfl j (.string s) (by simp [strCells, hj])
  rw [Addr.add_lit] at this
  simpa using this

/-! ### ID -/
def idByte (n : Int) (i : Nat) : Int := bits .xor .u8 (n / 2 ^ (i % 8) % 256) i
theorem wrap_u8_range (m : Int) : 0 ≤ IntKind.u8.wrap m ∧ IntKind.u8.wrap m < 256 := by
  rw [IntKind.wrap_u8]
  exact ⟨Int.emod_nonneg _ (by decide), Int.emod_lt_of_pos _ (by decide)⟩
theorem idByte_range (n : Int) (i : Nat) : 0 ≤ idByte n i ∧ idByte n i < 256 := wrap_u8_range _
def idL (n : Int) (k : Nat) : List UInt8 := (List.range k).map fun i => UInt8.ofNat (idByte n i).toNat
theorem idL_len (n : Int) (k : Nat) : (idL n k).length = k := by simp [idL]
theorem idL_succ (n : Int) (k : Nat) : idL n (k + 1) = idL n k ++ [UInt8.ofNat (idByte n k).toNat] := by simp [idL, List.range_succ]
def idB (n : Int) : ByteArray := ⟨(idL n 32).toArray⟩
theorem idB_size (n : Int) : (idB n).size = 32 := by rw [idB, mk_size, idL_len]

set_option maxRecDepth 100000 in
set_option maxHeartbeats 1000000 in
theorem id_any (n : Int) (w : World) : Calls Try.prog 12 #[.int .i64 n] w fun e w' => e = .returned (.string (idB n)) ∧ Below w.heap.size w w' := by
  go_enter Try.func12, Try.ntmps12
  go_wp2_with fail
  go_loopw [3, 4] (fun out i wr => ∃ k : Nat, k ≤ 32 ∧ i = .int .i64 k ∧ Below w.heap.size w wr ∧ out = .string ⟨(idL n k).toArray⟩) (fun _ i _ => 32 - (intOf i).toNat)
  case atStart => exact ⟨0, by omega, rfl, Below.refl _ _, rfl⟩
  case round =>
    obtain ⟨k, hk, rfl, hbw, rfl⟩ := hrel
    have HBW := Lib.hid hbw
    clear hbw
    by_cases hlt : k < 32
    · have hcv := convert_byte wr (idByte n k) (idByte_range n k)
      unfold idByte at hcv
      have hlen := idL_len n k
      go_wp2_with fail
      go_roundw
      case rel => exact ⟨k + 1, by omega, by go_num, HBW.out.alloc HBW.out.size _, by rw [idL_succ]; simp [idByte, mk_mk]⟩
      case measure => simp [intOf]; omega
    · obtain rfl : k = 32 := by omega
      go_wp2
      go_ret
      exact ⟨rfl, HBW.out⟩


/-- The first so many Ins are as they may be. -/
def DoneIn (i : Nat) (ps : List (PIn × Value)) : Prop := ∀ (j : Nat) (p : PIn × Value), ps[j]? = some p → j < i → FitIn p.1
theorem DoneIn.set {i : Nat} {ps : List (PIn × Value)} (h : DoneIn i ps) (p : PIn × Value) : DoneIn i (ps.set i p) := by
  intro j q hq hj
  rw [List.getElem?_set_ne (by omega)] at hq
  exact h j q hq hj
theorem set_same {α : Type} {l : List α} {i : Nat} {a : α} (h : l[i]? = some a) : l.set i a = l := by
  obtain ⟨h1, h2⟩ := List.getElem?_eq_some_iff.1 h
  rw [← h2]
  exact List.set_getElem_self h1
def DoneOut (i : Nat) (os : List POut) : Prop := ∀ (j : Nat) (p : POut), os[j]? = some p → j < i → FitOut p
theorem DoneOut.set {i : Nat} {os : List POut} (h : DoneOut i os) (p : POut) : DoneOut i (os.set i p) := by
  intro j q hq hj
  rw [List.getElem?_set_ne (by omega)] at hq
  exact h j q hq hj

theorem DoneOut.step {i : Nat} {os : List POut} (h : DoneOut i os) {p : POut} (hp : FitOut p) : DoneOut (i + 1) (os.set i p) := by
  intro j q hq hj
  by_cases hji : j = i
  · subst hji
    rw [List.getElem?_set_self (by have := (List.getElem?_eq_some_iff.1 hq).1; simpa using this)] at hq
    obtain rfl := Option.some.inj hq
    exact hp
  · rw [List.getElem?_set_ne (Ne.symm hji)] at hq
    exact h j q hq (by omega)

end Go.Proofs.Ytelindgnkpfkiaa
