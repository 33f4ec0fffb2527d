/-
  The document's order of points. Conditions: none.
-/
import Derived.Test.YtelindgnkpfkiaaTxG
namespace Go.Proofs.Ytelindgnkpfkiaa
open Go.RowKit Go.BigFrame
set_option linter.unusedVariables false
set_option linter.unusedSimpArgs false

theorem cmpB_zero : ∀ (a b : List UInt8), Lib.compareBytes a b = 0 ↔ a = b
  | [], [] => by simp [Lib.compareBytes]
  | [], _ :: _ => by simp [Lib.compareBytes]
  | _ :: _, [] => by simp [Lib.compareBytes]
  | a :: x, b :: y => by
    unfold Lib.compareBytes
    by_cases h1 : a < b
    · rw [if_pos h1]
      simp only [List.cons.injEq]
      constructor
      · intro h; omega
      · rintro ⟨rfl, -⟩; exact absurd h1 (UInt8.lt_irrefl _)
    · rw [if_neg h1]
      by_cases h2 : b < a
      · rw [if_pos h2]
        simp only [List.cons.injEq]
        constructor
        · intro h; omega
        · rintro ⟨rfl, -⟩; exact absurd h2 (UInt8.lt_irrefl _)
      · rw [if_neg h2, cmpB_zero x y]
        have : a = b := UInt8.le_antisymm (UInt8.not_lt.1 h2) (UInt8.not_lt.1 h1)
        subst this
        simp
theorem cmpB_neg : ∀ (a b : List UInt8), Lib.compareBytes b a = - Lib.compareBytes a b
  | [], [] => rfl
  | [], _ :: _ => rfl
  | _ :: _, [] => rfl
  | a :: x, b :: y => by
    unfold Lib.compareBytes
    by_cases h1 : a < b
    · have h2 : ¬ b < a := UInt8.not_lt.2 (UInt8.le_of_lt h1)
      simp only [if_pos h1, if_neg h2]; rfl
    · by_cases h2 : b < a
      · simp only [if_neg h1, if_pos h2]
      · rw [if_neg h1, if_neg h2, if_neg h2, if_neg h1, cmpB_neg x y]
theorem bytesLess_cmp : ∀ (a b : List UInt8), Op.bytesLess a b = decide (Lib.compareBytes a b < 0)
  | [], [] => rfl
  | [], _ :: _ => rfl
  | _ :: _, [] => rfl
  | a :: x, b :: y => by
    unfold Lib.compareBytes Op.bytesLess
    by_cases h1 : a < b
    · rw [if_pos h1]; simp [h1]
    · rw [if_neg h1]
      by_cases h2 : b < a
      · rw [if_pos h2]
        have : (a == b) = false := by
          rw [beq_eq_false_iff_ne]
          rintro rfl
          exact UInt8.lt_irrefl _ h2
        simp [h1, this]
      · rw [if_neg h2]
        have : a = b := UInt8.le_antisymm (UInt8.not_lt.1 h2) (UInt8.not_lt.1 h1)
        subst this
        rw [bytesLess_cmp x y]
        simp
theorem cmpN_neg (a b : Nat) : cmpN b a = - cmpN a b := by
  unfold cmpN
  by_cases h1 : a < b
  · have h2 : ¬ b < a := by omega
    simp only [if_pos h1, if_neg h2]; rfl
  · by_cases h2 : b < a
    · simp only [if_neg h1, if_pos h2]
    · rw [if_neg h1, if_neg h2, if_neg h2, if_neg h1]; rfl
theorem cmpN_zero (a b : Nat) : cmpN a b = 0 ↔ a = b := by
  unfold cmpN
  by_cases h1 : a < b
  · rw [if_pos h1]; constructor <;> intro h <;> omega
  · by_cases h2 : b < a
    · rw [if_neg h1, if_pos h2]; constructor <;> intro h <;> omega
    · rw [if_neg h1, if_neg h2]; constructor <;> intro h <;> omega
theorem orI_neg (x y : Int) : orI (-x) (-y) = - orI x y := by
  unfold orI
  by_cases h : x = 0
  · subst h; simp
  · rw [if_neg h, if_neg (by omega)]
theorem bytes_list {a b : ByteArray} (h : a.data.toList = b.data.toList) : a = b := by
  cases a; cases b
  simp at h
  rw [h]
theorem less_self (p : Pt) : lessPt p p = false := by
  unfold lessPt
  rw [(cmpB_zero _ _).2 rfl, (cmpN_zero _ _).2 rfl]
  rfl
theorem less_flip {p q : Pt} (h : p ≠ q) : (lessPt p q != lessPt q p) = true := by
  unfold lessPt
  rw [cmpB_neg q.1.data.toList p.1.data.toList, cmpN_neg q.2 p.2, orI_neg]
  have hz : orI (Lib.compareBytes q.1.data.toList p.1.data.toList) (cmpN q.2 p.2) ≠ 0 := by
    unfold orI
    intro h0
    by_cases h1 : Lib.compareBytes q.1.data.toList p.1.data.toList = 0
    · rw [if_pos h1] at h0
      exact h (Prod.ext (bytes_list ((cmpB_zero _ _).1 h1)).symm ((cmpN_zero _ _).1 h0).symm)
    · rw [if_neg h1] at h0
      exact h1 h0
  generalize orI (Lib.compareBytes q.1.data.toList p.1.data.toList) (cmpN q.2 p.2) = z at *
  by_cases hn : z < 0
  · rw [decide_eq_true hn, decide_eq_false (by omega)]; rfl
  · rw [decide_eq_false hn, decide_eq_true (by omega)]; rfl
theorem less_same {p q : Pt} (h : p.1 = q.1) : lessPt p q = decide (p.2 < q.2) := by
  unfold lessPt
  rw [h, (cmpB_zero _ _).2 rfl]
  unfold orI cmpN
  rw [if_pos rfl]
  by_cases h1 : p.2 < q.2
  · rw [if_pos h1, decide_eq_true h1]; rfl
  · rw [if_neg h1, decide_eq_false h1]
    by_cases h2 : q.2 < p.2
    · rw [if_pos h2]; rfl
    · rw [if_neg h2]; rfl
theorem less_apart {p q : Pt} (h : p.1 ≠ q.1) : lessPt p q = Op.bytesLess p.1.toList q.1.toList := by
  unfold lessPt
  rw [ByteArray.toList_eq, ByteArray.toList_eq, bytesLess_cmp]
  unfold orI
  rw [if_neg fun h0 => h (bytes_list ((cmpB_zero _ _).1 h0))]

set_option maxRecDepth 100000 in
set_option maxHeartbeats 1000000 in
theorem rless_any (p q : Pt) (w : World) : Calls Try.prog 37 #[.agg #[.string p.1, .int .u32 p.2], .agg #[.string q.1, .int .u32 q.2]] w (BIs (lessPt p q) w) := by
  obtain ⟨p1, p2⟩ := p
  obtain ⟨q1, q2⟩ := q
  dsimp only
  obtain ⟨r, hr⟩ : ∃ r, r = lessPt (p1, p2) (q1, q2) := ⟨_, rfl⟩
  rw [← hr]
  have HR := Lib.hid hr
  clear hr
  have hz1 := heap_alloc_new (w.alloc (.cells #[.string p1, .int .u32 p2] 35)) (.cells #[.string q1, .int .u32 q2] 35)
  have hz0 : ((w.alloc (.cells #[.string p1, .int .u32 p2] 35)).alloc (.cells #[.string q1, .int .u32 q2] 35)).heap[w.heap.size]? = some (.cells #[.string p1, .int .u32 p2] 35 (0, 0)) := by
    rw [Below.heap_alloc _ _ _ (by simp)]
    exact heap_alloc_new w _
  have hb : Below w.heap.size w ((w.alloc (.cells #[.string p1, .int .u32 p2] 35)).alloc (.cells #[.string q1, .int .u32 q2] 35)) := ((Below.refl _ _).alloc (Nat.le_refl _) _).alloc (by simp) _
  have s1 : (w.alloc (.cells #[.string p1, .int .u32 p2] 35)).heap.size = w.heap.size + 1 := by simp
  rw [s1] at hz1
  go_enter Try.func37, Try.ntmps37
  go_upto_region 1 with fail
  generalize (w.alloc (.cells #[.string p1, .int .u32 p2] 35)).alloc (.cells #[.string q1, .int .u32 q2] 35) = w0 at *
  have d0 : w0.cell? ⟨w.heap.size, 0, none⟩ = some (.string p1) := cell_at hz0
  have d1 : w0.cell? ⟨w.heap.size, 1, none⟩ = some (.int .u32 p2) := cell_at hz0
  have e0 : w0.cell? ⟨w.heap.size + 1, 0, none⟩ = some (.string q1) := cell_at hz1
  have e1 : w0.cell? ⟨w.heap.size + 1, 1, none⟩ = some (.int .u32 q2) := cell_at hz1
  have HB := Lib.hid hb
  clear hb hz0 hz1 s1
  by_cases h : p1 = q1
  · subst h
    have HE := Lib.hid (less_same (p := (p1, p2)) (q := (p1, q2)) rfl)
    go_wp2_with fail
    go_ret
    exact ⟨ret_bool (by rw [HR.out, HE.out]), HB.out⟩
  · have HE := Lib.hid (less_apart (p := (p1, p2)) (q := (q1, q2)) h)
    have hbe : (p1.toList == q1.toList) = false := by
      rw [ByteArray.toList_eq, ByteArray.toList_eq, beq_eq_false_iff_ne]
      exact fun h' => h (bytes_list h')
    go_wp2_with fail
    go_ret
    exact ⟨ret_bool (by rw [HR.out, HE.out]), HB.out⟩

/-! ### Spends -/
end Go.Proofs.Ytelindgnkpfkiaa
