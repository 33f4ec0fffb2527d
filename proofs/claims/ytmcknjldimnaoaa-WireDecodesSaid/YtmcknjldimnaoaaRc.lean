/-
  The program's reader: in, out, witness. Conditions: the place is in the text.
-/
import Derived.Test.YtmcknjldimnaoaaRb
import Derived.Test.YtmcknjldimnaoaaTxVs
namespace Go.Proofs.Ytmcknjldimnaoaa
open Go.RowKit Go.BigFrame
set_option linter.unusedVariables false
set_option linter.unusedSimpArgs false

theorem Psr.le {α : Type} {F : Prs α} {q : α → List UInt8} {ok : α → Prop} (h : Psr F q ok) {l : List UInt8} {z : Zst} (hz : z.at_ ≤ l.length) : (F l z).1.at_ ≤ l.length := by
  by_cases he : z.err = 0
  · exact (h.bound l z he hz).2
  · rw [h.stay l z he]; exact hz
theorem Psr.le' {α : Type} {F : Prs α} {q : α → List UInt8} {ok : α → Prop} (h : Psr F q ok) {s : ByteArray} {z : Zst} (hz : z.at_ ≤ s.size) : (F s.data.toList z).1.at_ ≤ s.size := by
  have := h.le (l := s.data.toList) (z := z) (by rw [data_len]; exact hz)
  rw [data_len] at this
  exact this
theorem Fr.heap {F : List Nat} {w w' : World} (h : Fr F w w') {X : Nat} {o : Obj} (hX : w.heap[X]? = some o) (hn : X ∉ F) : w'.heap[X]? = some o := (h.block X (Array.getElem?_eq_some_iff.1 hX).1 hn).trans hX
theorem four_cells' {w : World} {X : Nat} {u0 u1 u2 u3 : Value} {t : TypeId} (h : w.heap[X]? = some (.cells #[u0, u1, u2, u3] t (0, 0))) (v0 v1 v2 v3 : Value) :
    ((((w.setCell ⟨X, 0, none⟩ v0).setCell ⟨X, 1, none⟩ v1).setCell ⟨X, 2, none⟩ v2).setCell ⟨X, 3, none⟩ v3).heap[X]? = some (.cells #[v0, v1, v2, v3] t (0, 0)) ∧
    ∀ F, X ∈ F → Fr F w ((((w.setCell ⟨X, 0, none⟩ v0).setCell ⟨X, 1, none⟩ v1).setCell ⟨X, 2, none⟩ v2).setCell ⟨X, 3, none⟩ v3) := by
  have q1 := heap_setCell_at (j := 0) (u := v0) h
  have q2 := heap_setCell_at (j := 1) (u := v1) q1
  have q3 := heap_setCell_at (j := 2) (u := v2) q2
  have q4 := heap_setCell_at (j := 3) (u := v3) q3
  exact ⟨q4, fun F hF => (((Fr.setCell (F := F) w ⟨X, 0, none⟩ v0 hF).trans' (Fr.setCell _ ⟨X, 1, none⟩ v1 hF)).trans' (Fr.setCell _ ⟨X, 2, none⟩ v2 hF)).trans' (Fr.setCell _ ⟨X, 3, none⟩ v3 hF)⟩
theorem two_cells' {w : World} {X : Nat} {u0 u1 : Value} {t : TypeId} (h : w.heap[X]? = some (.cells #[u0, u1] t (0, 0))) (v0 v1 : Value) :
    ((w.setCell ⟨X, 0, none⟩ v0).setCell ⟨X, 1, none⟩ v1).heap[X]? = some (.cells #[v0, v1] t (0, 0)) ∧ ∀ F, X ∈ F → Fr F w ((w.setCell ⟨X, 0, none⟩ v0).setCell ⟨X, 1, none⟩ v1) := by
  have q1 := heap_setCell_at (j := 0) (u := v0) h
  have q2 := heap_setCell_at (j := 1) (u := v1) q1
  exact ⟨q2, fun F hF => (Fr.setCell (F := F) w ⟨X, 0, none⟩ v0 hF).trans' (Fr.setCell _ ⟨X, 1, none⟩ v1 hF)⟩
theorem fr_new {b X Y : Nat} {w w' : World} (h : Fr [b, X, Y] w w') (hX : w.heap.size ≤ X) (hY : w.heap.size ≤ Y) : Fr [b] w w' := h.mono fun k hk => by
  simp only [List.mem_cons, List.not_mem_nil, or_false] at hk
  rcases hk with rfl | rfl | rfl
  · exact .inl (by simp)
  · exact .inr hX
  · exact .inr hY
theorem fr_wide {b X Y : Nat} {w w' : World} (h : Fr [b] w w') : Fr [b, X, Y] w w' := h.mono fun k hk => by
  simp only [List.mem_cons, List.not_mem_nil, or_false] at hk
  subst hk
  exact .inl (by simp)
def inV (x : PIn) : Value := .agg #[.string x.id, .int .u32 x.idx, .int .u32 x.seq, .slice none 0 0]
def outV (x : POut) : Value := .agg #[.int .i64 x.val, .string x.script]

set_option maxRecDepth 100000 in
set_option maxHeartbeats 2000000 in
theorem in_any (b : Nat) (s : ByteArray) (z : Zst) (w : World) (h : RdAt b s z w) (hs : s.size ≤ 9223372036854775000) (hz : z.at_ ≤ s.size) :
    Calls Try.prog 75 #[.pointer (some ⟨b, 0, none⟩)] w (RdIs b s (inZ s.data.toList z).1 (inV (inZ s.data.toList z).2) w) := by
  have HA := Lib.hid h
  have hbl := h.lt
  obtain ⟨z1, s1, hz1⟩ : ∃ z1 s1, textZ 32 s.data.toList z = (z1, s1) := ⟨_, _, rfl⟩
  obtain ⟨z2, n2, hz2⟩ : ∃ z2 n2, numZ 4 4294967295 3 s.data.toList z1 = (z2, n2) := ⟨_, _, rfl⟩
  obtain ⟨z3, n3, hz3⟩ : ∃ z3 n3, cntZ 0 0 4 s.data.toList z2 = (z3, n3) := ⟨_, _, rfl⟩
  obtain ⟨z4, n4, hz4⟩ : ∃ z4 n4, numZ 4 4294967295 3 s.data.toList z3 = (z4, n4) := ⟨_, _, rfl⟩
  have hr : inZ s.data.toList z = (z4, ⟨s1, n2, n4, []⟩) := by unfold inZ mapZ seqZ; rw [hz1]; dsimp only; rw [hz2]; dsimp only; rw [hz3]; dsimp only; rw [hz4]
  rw [hr]
  have k1 := (textZ_psr 32).le' (s := s) hz
  rw [hz1] at k1
  have k2 := (numZ_psr 4 4294967295 3 (by decide)).le' (s := s) k1
  rw [hz2] at k2
  have k3 := (cntZ_psr 0 0 4 (by decide) (by decide)).le' (s := s) k2
  rw [hz3] at k3
  dsimp only at k1 k2 k3
  have q1 : ∀ y, RdAt b s z y → _ := fun y hy => bytes_any b s z 32 y hy hs hz (by decide)
  have q2 : ∀ y, RdAt b s z1 y → _ := fun y hy => four_any b s z1 y hy hs k1
  have q3 : ∀ y, RdAt b s z2 y → _ := fun y hy => count_any b s z2 0 0 4 y hy hs k2 (by decide) (by decide) (by decide)
  have q4 : ∀ y, RdAt b s z3 y → _ := fun y hy => four_any b s z3 y hy hs k3
  simp only [hz1] at q1
  simp only [hz2] at q2
  simp only [hz3] at q3
  simp only [hz4] at q4
  have Q1 := Lib.hid q1
  have Q2 := Lib.hid q2
  have Q3 := Lib.hid q3
  have Q4 := Lib.hid q4
  clear h hr hz1 hz2 hz3 hz4 k1 k2 k3 q1 q2 q3 q4 hz hs
  go_enter Try.func75, Try.ntmps75
  go_upto_region 1 with fail
  have hz := heap_alloc_new w (.cells #[.string ⟨#[]⟩, .int .u32 0, .int .u32 0, .slice none 0 0] 47)
  have hal : Below w.heap.size w (w.alloc (.cells #[.string ⟨#[]⟩, .int .u32 0, .int .u32 0, .slice none 0 0] 47)) := (Below.refl _ _).alloc (Nat.le_refl _) _
  obtain ⟨X, hX⟩ : ∃ q, q = w.heap.size := ⟨_, rfl⟩
  rw [← hX] at hz ⊢
  generalize w.alloc (.cells #[.string ⟨#[]⟩, .int .u32 0, .int .u32 0, .slice none 0 0] 47) = w0 at *
  have HA := Lib.hid (HA.out.below hal)
  have HF := Lib.hid (Fr.bel (b := b) hal)
  have HX := Lib.hid hz
  have HN := Lib.hid (And.intro hX hbl)
  clear hz hal hX hbl
  go_wp2_with fail
  refine (Q1.out _ HA.out).mono ?_
  rintro e w1 ⟨rfl, ha, hf⟩
  have HA := Lib.hid ha
  have HX := Lib.hid (hf.heap HX.out (by have := HN.out; simp; omega))
  have HF := Lib.hid (HF.out.trans' hf)
  clear ha hf
  go_wp2_with fail
  refine (Q2.out _ HA.out).mono ?_
  rintro e w2 ⟨rfl, ha, hf⟩
  have HA := Lib.hid ha
  have HX := Lib.hid (hf.heap HX.out (by have := HN.out; simp; omega))
  have HF := Lib.hid (HF.out.trans' hf)
  clear ha hf
  go_upto_region 2 with fail
  have hz := heap_alloc_new w2 (.cells #[.string s1, .int .u32 n2, .int .u32 0, .slice none 0 0] 47)
  have hal : Below w2.heap.size w2 (w2.alloc (.cells #[.string s1, .int .u32 n2, .int .u32 0, .slice none 0 0] 47)) := (Below.refl _ _).alloc (Nat.le_refl _) _
  obtain ⟨Y, hY⟩ : ∃ q, q = w2.heap.size := ⟨_, rfl⟩
  rw [← hY] at hz ⊢
  generalize w2.alloc (.cells #[.string s1, .int .u32 n2, .int .u32 0, .slice none 0 0] 47) = w3 at *
  have HA := Lib.hid (HA.out.below hal)
  have HNY := Lib.hid (show X < Y ∧ w.heap.size ≤ Y from ⟨by rw [hY]; exact (Array.getElem?_eq_some_iff.1 HX.out).1, by rw [hY]; exact HF.out.size⟩)
  have HX := Lib.hid (show w3.heap[X]? = _ from (hal.block X (Array.getElem?_eq_some_iff.1 HX.out).1).trans HX.out)
  have HF := Lib.hid (HF.out.trans' (Fr.bel (b := b) hal))
  have HY := Lib.hid hz
  clear hz hal hY
  go_wp2_with fail
  refine (Q3.out _ HA.out).mono ?_
  rintro e w4 ⟨rfl, ha, hf⟩
  have HA := Lib.hid ha
  have HX := Lib.hid (hf.heap HX.out (by have := HN.out; simp; omega))
  have HY := Lib.hid (hf.heap HY.out (by have := HN.out; have := HNY.out; simp; omega))
  have HF := Lib.hid (HF.out.trans' hf)
  clear ha hf
  go_wp2_with fail
  refine (Q4.out _ HA.out).mono ?_
  rintro e w5 ⟨rfl, ha, hf⟩
  have HA := Lib.hid ha
  have HX := Lib.hid (hf.heap HX.out (by have := HN.out; simp; omega))
  have HY := Lib.hid (hf.heap HY.out (by have := HN.out; have := HNY.out; simp; omega))
  have HF := Lib.hid (HF.out.trans' hf)
  clear ha hf Q1 Q2 Q3 Q4
  have y2 : w5.cell? ⟨Y, 2, none⟩ = some (.int .u32 0) := cell_at HY.out
  have g2 : w5.frozen? ⟨Y, 2, none⟩ = false := free_at HY.out
  go_upto_region 4 with fail
  have HA := Lib.hid (show RdAt b s z4 (w5.setCell ⟨Y, 2, none⟩ (.int .u32 n4)) from (Below.heap_setCell _ _ _ _ (by have := HN.out; have := HNY.out; dsimp only; omega)).trans HA.out)
  have HX := Lib.hid ((Below.heap_setCell w5 ⟨Y, 2, none⟩ (.int .u32 n4) X (by have := HNY.out; dsimp only; omega)).trans HX.out)
  have HY := Lib.hid (heap_setCell_at (j := 2) (u := .int .u32 n4) HY.out)
  have HF := Lib.hid ((fr_wide (X := X) (Y := Y) HF.out).trans' (Fr.setCell w5 ⟨Y, 2, none⟩ (.int .u32 n4) (by simp)))
  clear y2 g2
  generalize w5.setCell ⟨Y, 2, none⟩ (.int .u32 n4) = w6 at *
  have y0 : w6.cell? ⟨Y, 0, none⟩ = some (.string s1) := cell_at HY.out
  have y1 : w6.cell? ⟨Y, 1, none⟩ = some (.int .u32 n2) := cell_at HY.out
  have y2 : w6.cell? ⟨Y, 2, none⟩ = some (.int .u32 n4) := cell_at HY.out
  have y3 : w6.cell? ⟨Y, 3, none⟩ = some (.slice none 0 0) := cell_at HY.out
  have x0 : w6.cell? ⟨X, 0, none⟩ = some (.string ⟨#[]⟩) := cell_at HX.out
  have x1 : w6.cell? ⟨X, 1, none⟩ = some (.int .u32 0) := cell_at HX.out
  have x2 : w6.cell? ⟨X, 2, none⟩ = some (.int .u32 0) := cell_at HX.out
  have x3 : w6.cell? ⟨X, 3, none⟩ = some (.slice none 0 0) := cell_at HX.out
  have f0 : w6.frozen? ⟨X, 0, none⟩ = false := free_at HX.out
  have f1 : w6.frozen? ⟨X, 1, none⟩ = false := free_at HX.out
  have f2 : w6.frozen? ⟨X, 2, none⟩ = false := free_at HX.out
  have f3 : w6.frozen? ⟨X, 3, none⟩ = false := free_at HX.out
  obtain ⟨c4, c5⟩ := four_cells' HX.out (.string s1) (.int .u32 n2) (.int .u32 n4) (.slice none 0 0)
  have HF2 := Lib.hid (HF.out.trans' (c5 [b, X, Y] (by simp)))
  have HA2 := Lib.hid (show RdAt b s z4 _ from ((c5 [X] (by simp)).block b HA.out.lt (by have := HN.out; simp; omega)).trans HA.out)
  have HC4 := Lib.hid c4
  clear c4 c5
  go_wp2_with fail
  have c4 := HC4.out
  have r0 := cell_at (j := 0) c4
  have r1 := cell_at (j := 1) c4
  have r2 := cell_at (j := 2) c4
  have r3 := cell_at (j := 3) c4
  refine bodyPost_ret (v := .agg #[.string s1, .int .u32 n2, .int .u32 n4, .slice none 0 0]) (by simp [results, Try.results75, go_sem, x0, x1, x2, x3]) rfl ⟨rfl, HA2.out, fr_new HF2.out (by have := HN.out; omega) (by have := HNY.out; omega)⟩
theorem cntZ_le (least most : Nat) (e : Int) (l : List UInt8) (z : Zst) : (cntZ least most e l z).2 ≤ most := by
  unfold cntZ
  split
  · exact Nat.zero_le _
  · split
    · exact Nat.zero_le _
    · split
      · exact Nat.zero_le _
      · dsimp only; omega
set_option maxRecDepth 100000 in
set_option maxHeartbeats 2000000 in
theorem out_any (b : Nat) (s : ByteArray) (z : Zst) (w : World) (h : RdAt b s z w) (hs : s.size ≤ 9223372036854775000) (hz : z.at_ ≤ s.size) :
    Calls Try.prog 76 #[.pointer (some ⟨b, 0, none⟩)] w (RdIs b s (outZ s.data.toList z).1 (outV (outZ s.data.toList z).2) w) := by
  have HA := Lib.hid h
  have hbl := h.lt
  obtain ⟨z1, n1, hz1⟩ : ∃ z1 n1, numZ 8 2100000000000000 3 s.data.toList z = (z1, n1) := ⟨_, _, rfl⟩
  obtain ⟨z2, n2, hz2⟩ : ∃ z2 n2, cntZ 0 40 20 s.data.toList z1 = (z2, n2) := ⟨_, _, rfl⟩
  obtain ⟨z3, s3, hz3⟩ : ∃ z3 s3, textZ n2 s.data.toList z2 = (z3, s3) := ⟨_, _, rfl⟩
  have hr : outZ s.data.toList z = (z3, ⟨(n1 : Int), s3⟩) := by unfold outZ cntText mapZ seqZ; rw [hz1]; dsimp only; rw [hz2]; dsimp only; rw [hz3]
  rw [hr]
  have k1 := (numZ_psr 8 2100000000000000 3 (by decide)).le' (s := s) hz
  rw [hz1] at k1
  have k2 := (cntZ_psr 0 40 20 (by decide) (by decide)).le' (s := s) k1
  rw [hz2] at k2
  dsimp only at k1 k2
  have hn1 := numZ_le 8 2100000000000000 3 s.data.toList z
  have hn2 := cntZ_le 0 40 20 s.data.toList z1
  rw [hz1] at hn1
  rw [hz2] at hn2
  dsimp only at hn1 hn2
  have q1 : ∀ y, RdAt b s z y → _ := fun y hy => number_any b s z 8 2100000000000000 3 y hy (.inr (.inr (.inr rfl))) hs hz (by decide) (by decide)
  have q2 : ∀ y, RdAt b s z1 y → _ := fun y hy => count_any b s z1 0 40 20 y hy hs k1 (by decide) (by decide) (by decide)
  have q3 : ∀ y, RdAt b s z2 y → _ := fun y hy => bytes_any b s z2 n2 y hy hs k2 (by omega)
  simp only [hz1] at q1
  simp only [hz2] at q2
  simp only [hz3] at q3
  have Q1 := Lib.hid q1
  have Q2 := Lib.hid q2
  have Q3 := Lib.hid q3
  have hn1I : (n1 : Int) ≤ 2100000000000000 := by omega
  clear h hr hz1 hz2 hz3 k1 k2 q1 q2 q3 hz hs hn1 hn2
  go_enter Try.func76, Try.ntmps76
  go_upto_region 1 with fail
  have hz := heap_alloc_new w (.cells #[.int .i64 0, .string ⟨#[]⟩] 59)
  have hal : Below w.heap.size w (w.alloc (.cells #[.int .i64 0, .string ⟨#[]⟩] 59)) := (Below.refl _ _).alloc (Nat.le_refl _) _
  obtain ⟨X, hX⟩ : ∃ q, q = w.heap.size := ⟨_, rfl⟩
  rw [← hX] at hz ⊢
  generalize w.alloc (.cells #[.int .i64 0, .string ⟨#[]⟩] 59) = w0 at *
  have HA := Lib.hid (HA.out.below hal)
  have HF := Lib.hid (Fr.bel (b := b) hal)
  have HX := Lib.hid hz
  have HN := Lib.hid (And.intro hX hbl)
  clear hz hal hX hbl
  go_wp2_with fail
  refine (Q1.out _ HA.out).mono ?_
  rintro e w1 ⟨rfl, ha, hf⟩
  have HA := Lib.hid ha
  have HX := Lib.hid (hf.heap HX.out (by have := HN.out; simp; omega))
  have HF := Lib.hid (HF.out.trans' hf)
  clear ha hf
  go_wp2_with fail
  refine (Q2.out _ HA.out).mono ?_
  rintro e w2 ⟨rfl, ha, hf⟩
  have HA := Lib.hid ha
  have HX := Lib.hid (hf.heap HX.out (by have := HN.out; simp; omega))
  have HF := Lib.hid (HF.out.trans' hf)
  clear ha hf
  go_wp2_with fail
  refine (Q3.out _ HA.out).mono ?_
  rintro e w6 ⟨rfl, ha, hf⟩
  have HA := Lib.hid ha
  have HX := Lib.hid (hf.heap HX.out (by have := HN.out; simp; omega))
  have HF := Lib.hid (HF.out.trans' hf)
  clear ha hf Q1 Q2 Q3
  have x0 : w6.cell? ⟨X, 0, none⟩ = some (.int .i64 0) := cell_at HX.out
  have x1 : w6.cell? ⟨X, 1, none⟩ = some (.string ⟨#[]⟩) := cell_at HX.out
  have f0 : w6.frozen? ⟨X, 0, none⟩ = false := free_at HX.out
  have f1 : w6.frozen? ⟨X, 1, none⟩ = false := free_at HX.out
  obtain ⟨c4, c5⟩ := two_cells' HX.out (.int .i64 (n1 : Int)) (.string s3)
  have HF2 := Lib.hid ((fr_wide (X := X) (Y := X) HF.out).trans' (c5 [b, X, X] (by simp)))
  have HA2 := Lib.hid (show RdAt b s z3 _ from ((c5 [X] (by simp)).block b HA.out.lt (by have := HN.out; simp; omega)).trans HA.out)
  have HC4 := Lib.hid c4
  clear c4 c5
  go_wp2_with fail
  refine bodyPost_ret (v := .agg #[.int .i64 (n1 : Int), .string s3]) (by simp [results, Try.results76, go_sem, x0, x1]) rfl ⟨rfl, HA2.out, fr_new HF2.out (by have := HN.out; omega) (by have := HN.out; omega)⟩

/-- It returns texts in a row of its own, the reader stands so. -/
def WitIs (b : Nat) (s : ByteArray) (z : Zst) (xs : List ByteArray) (w : World) (e : Ending) (w' : World) : Prop := ∃ v, e = .returned v ∧ w'.ownsRow w.heap.size 9 1 v xs.length (strCells xs) ∧ RdAt b s z w' ∧ Fr [b] w w'
theorem repZ_len {α : Type} (F : Prs α) (l : List UInt8) (z : Zst) : ∀ n, (repZ F n l z).2.length = n
  | 0 => rfl
  | n + 1 => by show ((repZ F n l z).2 ++ [_]).length = n + 1; rw [List.length_append, repZ_len F l z n]; rfl
theorem ownsRow_fr {w w' : World} {base e size n b : Nat} {v : Value} {xs : List Value} (h : w.ownsRow base e size v n xs) (hf : Fr [b] w w') (hb : b < base) : w'.ownsRow base e size v n xs :=
  ownsRow_of_block h fun k hk => hf.block k (h.lt k hk).2 (by have := (h.lt k hk).1; simp; omega)
set_option maxRecDepth 100000 in
set_option maxHeartbeats 2000000 in
theorem witness_any (b : Nat) (s : ByteArray) (z : Zst) (w : World) (h : RdAt b s z w) (hs : s.size ≤ 9223372036854775000) (hz : z.at_ ≤ s.size) :
    Calls Try.prog 77 #[.pointer (some ⟨b, 0, none⟩)] w (WitIs b s (witZ s.data.toList z).1 (witZ s.data.toList z).2 w) := by
  have HA := Lib.hid h
  have hbl := h.lt
  obtain ⟨z1, n, hz1⟩ : ∃ z1 n1, cntZ 0 4 6 s.data.toList z = (z1, n1) := ⟨_, _, rfl⟩
  have hr : witZ s.data.toList z = repZ itemZ n s.data.toList z1 := by unfold witZ cntRep mapZ seqZ; rw [hz1]
  rw [hr]
  have k1 := (cntZ_psr 0 4 6 (by decide) (by decide)).le' (s := s) hz
  rw [hz1] at k1
  dsimp only at k1
  have hn := cntZ_le 0 4 6 s.data.toList z
  rw [hz1] at hn
  dsimp only at hn
  have q1 : ∀ y, RdAt b s z y → _ := fun y hy => count_any b s z 0 4 6 y hy hs hz (by decide) (by decide) (by decide)
  simp only [hz1] at q1
  have Q1 := Lib.hid q1
  have HK := Lib.hid k1
  have HS := Lib.hid hs
  have HBL := Lib.hid hbl
  clear h hr hz1 k1 q1 hz hs hbl
  go_enter Try.func77, Try.ntmps77
  go_wp2_with fail
  refine (Q1.out _ HA.out).mono ?_
  rintro e w1 ⟨rfl, ha, hf⟩
  have HA := Lib.hid ha
  have HF := Lib.hid hf
  clear ha hf Q1
  go_wp2_with fail
  go_loopg [3, 6] n (fun g v vi wr => ∃ k : Nat, g = n - k ∧ k ≤ n ∧ vi = .int .i64 k ∧ RdAt b s (repZ itemZ k s.data.toList z1).1 wr ∧ Fr [b] w wr ∧ wr.ownsRow w.heap.size 9 1 v k (strCells (repZ itemZ k s.data.toList z1).2))
  case atStart => exact ⟨0, rfl, by omega, rfl, HA.out, HF.out, World.ownsRow_nil _ _ _ _⟩
  case round =>
    clear HA HF
    rename World => wr
    obtain ⟨k, hgk, hk, rfl, ha, hf, hown⟩ := hrel
    have HGK := Lib.hid hgk
    have HF := Lib.hid hf
    obtain ⟨zk, xs, hzx⟩ : ∃ zk xs, repZ itemZ k s.data.toList z1 = (zk, xs) := ⟨_, _, rfl⟩
    have hxl := repZ_len itemZ s.data.toList z1 k
    have hzl := ((cntText_psr 80 20 (by decide) (by decide)).rep k).le' HK.out
    have hzl : (repZ itemZ k s.data.toList z1).1.at_ ≤ s.size := hzl
    rw [hzx] at ha hown hzl hxl
    dsimp only at ha hown hzl hxl
    obtain ⟨a, c, rfl, hc1, hc2⟩ := ownsRow_shape hown
    have HA := Lib.hid ha
    have HO := Lib.hid hown
    clear hgk hf ha hown
    by_cases hlt : k < n
    · obtain ⟨z5, n5, hz5⟩ : ∃ z5 n5, cntZ 0 80 20 s.data.toList zk = (z5, n5) := ⟨_, _, rfl⟩
      obtain ⟨z6, s6, hz6⟩ : ∃ z6 s6, textZ n5 s.data.toList z5 = (z6, s6) := ⟨_, _, rfl⟩
      have hst : repZ itemZ (k + 1) s.data.toList z1 = (z6, xs ++ [s6]) := by
        show ((itemZ s.data.toList (repZ itemZ k s.data.toList z1).1).1, _ ++ [(itemZ s.data.toList (repZ itemZ k s.data.toList z1).1).2]) = _
        rw [hzx]
        unfold itemZ cntText mapZ seqZ
        dsimp only
        rw [hz5]
        dsimp only
        rw [hz6]
      have k5 := (cntZ_psr 0 80 20 (by decide) (by decide)).le' (s := s) hzl
      rw [hz5] at k5
      dsimp only at k5
      have hn5 := cntZ_le 0 80 20 s.data.toList zk
      rw [hz5] at hn5
      dsimp only at hn5
      have q1 : ∀ y, RdAt b s zk y → _ := fun y hy => count_any b s zk 0 80 20 y hy HS.out hzl (by decide) (by decide) (by decide)
      have q2 : ∀ y, RdAt b s z5 y → _ := fun y hy => bytes_any b s z5 n5 y hy HS.out k5 (by omega)
      simp only [hz5] at q1
      simp only [hz6] at q2
      have Q1 := Lib.hid q1
      have Q2 := Lib.hid q2
      have HST := Lib.hid hst
      clear q1 q2 hst hz5 hz6 hn5 k5 hzl hzx hxl
      go_wp2_with fail
      refine (Q1.out _ HA.out).mono ?_
      rintro e w2 ⟨rfl, ha, hf⟩
      have HA := Lib.hid ha
      have HO := Lib.hid (ownsRow_fr HO.out hf HBL.out)
      have HF := Lib.hid (HF.out.trans' hf)
      clear ha hf
      go_wp2_with fail
      refine (Q2.out _ HA.out).mono ?_
      rintro e w3 ⟨rfl, ha, hf⟩
      have HA := Lib.hid ha
      have HO := Lib.hid (ownsRow_fr HO.out hf HBL.out)
      have HF := Lib.hid (HF.out.trans' hf)
      clear ha hf Q1 Q2
      obtain ⟨i0, hi, hz0, hz1, hz2⟩ := info_parts info_str
      obtain ⟨a2, c2, w4, hrun, hown2, hb2, hg2, hv2⟩ := append_one (P := Try.prog) Try.underlying45 hi hz0 hz1 hz2 rfl HO.out #[.string s6] rfl (by simp [Value.oneCell']) (by rw [maxLen_eq]; omega) (by omega) HF.out.size (ty := 45)
      have hbm := hb2.mono (show b + 1 ≤ w.heap.size from HBL.out)
      have HA4 := Lib.hid (show RdAt b s z6 w4 from (hbm.block b (Nat.lt_succ_self b)).trans HA.out)
      have HF4 := Lib.hid (show Fr [b] w w4 from ⟨hb2.os.trans HF.out.os, hb2.tape.trans HF.out.tape, hb2.output.trans HF.out.output, Nat.le_trans HF.out.size hb2.size, fun i hi hn => (hb2.block i hi).trans (HF.out.block i hi hn)⟩)
      have HO4 := Lib.hid (show w4.ownsRow w.heap.size 9 1 (.slice a2 (k + 1) c2) (k + 1) (strCells (xs ++ [s6])) by simpa [strCells] using hown2)
      have HR := Lib.hid hrun
      clear hrun hown2 hb2 hg2 hv2 hbm hi hz0 hz1 hz2 i0 HA HF HO
      go_wp2_with (at_builtin; refine wpList_append_run rfl (.tmp 8) (.tmp 13) 45 45 rfl rfl rfl HR.out ?_)
      go_roundg (n - (k + 1))
      case measure => have := HGK.out; omega
      case rel => exact ⟨k + 1, rfl, by omega, by go_num, by rw [HST.out]; exact HA4.out, HF4.out, by rw [HST.out]; exact HO4.out⟩
    · obtain rfl : k = n := by omega
      have HZX := Lib.hid hzx
      have HXL := Lib.hid hxl
      clear hzx hxl hzl
      go_wp2_with fail
      go_ret
      exact ⟨_, rfl, by rw [HZX.out]; dsimp only; rw [HXL.out]; exact HO.out, by rw [HZX.out]; exact HA.out, HF.out⟩
end Go.Proofs.Ytmcknjldimnaoaa
