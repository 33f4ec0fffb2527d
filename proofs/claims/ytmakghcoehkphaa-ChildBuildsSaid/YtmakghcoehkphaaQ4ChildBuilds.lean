/-
  ChildBuilds, part 4: the texts Cg, Ch, one after another. Conditions: none beyond those named at each.
-/
import Derived.Test.YtmakghcoehkphaaQ3ChildBuilds
section
/-
  child.Build. Conditions: the numbers are ones of their kinds.
-/
namespace Go.Proofs.Ytmakghcoehkphaa
open Go.RowKit Go.BigFrame
set_option linter.unusedVariables false
set_option linter.unusedSimpArgs false

def enV (cid : ByteArray) (ci : Nat) (cv : Int) (cs : ByteArray) (ch : Int) : Value := .agg #[.string cid, .int .u32 ci, .int .i64 cv, .string cs, .int .i64 ch]
def BuildIs (z : PTx × Int) (w : World) (e : Ending) (w' : World) : Prop := ∃ v, e = .returned (.tuple #[v, .int .i64 z.2]) ∧ TxNew w.heap.size w' v z.1 ∧ Below w.heap.size w w'
theorem build_is {z : PTx × Int} {t : PTx} {c : Int} {v : Value} {w w' : World} (h : z = (t, c)) (ht : TxNew w.heap.size w' v t) (hb : Below w.heap.size w w') : BuildIs z w (.returned (.tuple #[v, .int .i64 c])) w' := ⟨v, by rw [h], by rw [h]; exact ht, hb⟩
theorem add2_cases (a b : Int) : (add2 a b = (a + b, 0) ∧ goodA a = true ∧ goodA b = true ∧ goodA (a + b) = true) ∨ add2 a b = (0, 3) := by
  unfold add2
  by_cases h : (goodA a && goodA b && goodA (a + b)) = true
  · rw [if_pos h]
    simp only [Bool.and_eq_true] at h
    exact .inl ⟨rfl, h.1.1, h.1.2, h.2⟩
  · rw [if_neg h]; exact .inr rfl
set_option maxHeartbeats 400000 in
theorem add2_any (s a : Int) (w : World) : Calls Try.prog 23 #[.int .i64 s, .int .i64 a] w (fun e w' => e = .returned (.tuple #[.int .i64 (add2 s a).1, .int .i64 (add2 s a).2]) ∧ w = w') := by
  by_cases hs : goodA s = true
  · have h : addA s a = add2 s a := by unfold addA add2; rw [hs]; simp
    rw [← h]
    exact add_any s a hs w
  · have hs' : goodA s = false := by simpa using hs
    have HE := Lib.hid (show add2 s a = (0, 3) by unfold add2; rw [hs']; rfl)
    have HG := Lib.hid (good_any s w)
    rw [hs'] at HG
    clear hs hs'
    go_enter Try.func23, Try.ntmps23
    go_wp2_with fail
    refine HG.out.mono ?_
    rintro e w' ⟨rfl, rfl⟩
    go_wp2_with fail
    go_ret2
    exact ⟨by rw [HE.out]; rfl, rfl⟩
theorem set4_zero {base : Nat} {w w' : World} (h : Below base w w') {b : Nat} (hb : base ≤ b) (u0 u1 u2 u3 : Value) : Below base w ((((w'.setCell ⟨b, 0, none⟩ u0).setCell ⟨b, 1, none⟩ u1).setCell ⟨b, 2, none⟩ u2).setCell ⟨b, 3, none⟩ u3) :=
  (((h.setCell hb _).setCell hb _).setCell hb _).setCell hb _
theorem child_bad {a : PCl} {cid : ByteArray} {ci : Nat} {cv : Int} {tag : Nat} {fee : Int} (h : tag = 0 ∨ a.br < 0 ∨ 2 < a.br ∨ 0 < a.lock.height) : childOf a cid ci cv tag fee = (noTx, 2) := if_pos h

set_option maxRecDepth 100000 in
set_option maxHeartbeats 4000000 in
theorem cbuild_any (a : PCl) (cid : ByteArray) (ci : Nat) (cv : Int) (cs : ByteArray) (ch : Int) (tag : Nat) (fee : Int) (ho : a.Ok) (hc : cid.size ≤ maxLen) (hci : ci < 4294967296) (ht : tag < 65536) (w : World) :
    Calls Try.prog 8 #[clV a, enV cid ci cv cs ch, .int .u16 tag, .int .i64 fee] w (BuildIs (childOf a cid ci cv tag fee) w) := by
  obtain ⟨z, hz⟩ : ∃ z, z = childOf a cid ci cv tag fee := ⟨_, rfl⟩
  rw [← hz]
  have HOK := Lib.hid ho
  have hhg := ho.lock.height
  unfold clV enV
  clear ho
  go_enter Try.func8, Try.ntmps8
  go_upto_region 1 with fail
  obtain ⟨X, hX⟩ : ∃ q, q = w.heap.size := ⟨_, rfl⟩
  have hnews := new3 w X hX (.cells #[.string a.id, .int .u32 a.idx, .int .i64 a.val, .int .i64 a.br, .int .u16 a.lock.tag, .int .u16 a.lock.delay, .int .u32 a.lock.height, .int .i64 a.dead] 29) (.cells #[.string cid, .int .u32 ci, .int .i64 cv, .string cs, .int .i64 ch] 48) (.cells #[.int .u32 0, .slice none 0 0, .slice none 0 0, .int .u32 0] 43)
  rw [← hX]
  generalize (((w.alloc (.cells #[.string a.id, .int .u32 a.idx, .int .i64 a.val, .int .i64 a.br, .int .u16 a.lock.tag, .int .u16 a.lock.delay, .int .u32 a.lock.height, .int .i64 a.dead] 29)).alloc (.cells #[.string cid, .int .u32 ci, .int .i64 cv, .string cs, .int .i64 ch] 48)).alloc (.cells #[.int .u32 0, .slice none 0 0, .slice none 0 0, .int .u32 0] 43)) = w0 at *
  obtain ⟨hz0, hz1, hz2, hal⟩ := hnews
  have hXX : w.heap.size ≤ X := by omega
  have hX2 : w.heap.size ≤ X + 1 + 1 := by omega
  have hl2 : X + 1 + 1 < w0.heap.size := (Array.getElem?_eq_some_iff.1 hz2).1
  have HB0 := Lib.hid hal
  have HZ0 := Lib.hid hz0
  have HZ1 := Lib.hid hz1
  have HZ2 := Lib.hid hz2
  clear hz0 hz1 hz2 hal hX
  by_cases hb3 : a.br < 0 ∨ 3 ≤ a.br
  · have HZ := Lib.hid (hz.trans (child_bad (by omega)))
    have c3 : w0.cell? ⟨X, 3, none⟩ = some (.int .i64 a.br) := cell_at HZ0.out
    have r0 : w0.cell? ⟨X + 1 + 1, 0, none⟩ = some (.int .u32 0) := cell_at HZ2.out
    have r1 : w0.cell? ⟨X + 1 + 1, 1, none⟩ = some (.slice none 0 0) := cell_at HZ2.out
    have r2 : w0.cell? ⟨X + 1 + 1, 2, none⟩ = some (.slice none 0 0) := cell_at HZ2.out
    have r3 : w0.cell? ⟨X + 1 + 1, 3, none⟩ = some (.int .u32 0) := cell_at HZ2.out
    have f0 : w0.frozen? ⟨X + 1 + 1, 0, none⟩ = false := free_at HZ2.out
    have f1 : w0.frozen? ⟨X + 1 + 1, 1, none⟩ = false := free_at HZ2.out
    have f2 : w0.frozen? ⟨X + 1 + 1, 2, none⟩ = false := free_at HZ2.out
    have f3 : w0.frozen? ⟨X + 1 + 1, 3, none⟩ = false := free_at HZ2.out
    have HS := Lib.hid (sign_no a.br tag hb3 w0)
    clear hz hb3
    by_cases ht0 : tag = 0
    · subst ht0
      go_wp2_with fail
      refine HS.out.mono ?_
      rintro e w' ⟨rfl, rfl⟩
      go_wp2_with fail
      exact bodyPost_ret (v := .tuple #[.agg #[.int .u32 0, .slice none 0 0, .slice none 0 0, .int .u32 0], .int .i64 2]) (by simp [results, Try.results8, go_sem, r0, r1, r2, r3]) rfl (build_is HZ.out (tx_zero _ _) (set4_zero HB0.out hX2 _ _ _ _))
    · have ht1 : ¬ (tag : Int) = 0 := by omega
      go_wp2_with fail
      refine HS.out.mono ?_
      rintro e w' ⟨rfl, rfl⟩
      go_wp2_with fail
      exact bodyPost_ret (v := .tuple #[.agg #[.int .u32 0, .slice none 0 0, .slice none 0 0, .int .u32 0], .int .i64 2]) (by simp [results, Try.results8, go_sem, r0, r1, r2, r3]) rfl (build_is HZ.out (tx_zero _ _) (set4_zero HB0.out hX2 _ _ _ _))
  obtain ⟨n, hn⟩ : ∃ n : Nat, a.br = n := ⟨a.br.toNat, by omega⟩
  have hn3 : n < 3 := by omega
  have HN := Lib.hid hn
  have c3 : w0.cell? ⟨X, 3, none⟩ = some (.int .i64 n) := by rw [cell_at HZ0.out, ← hn]; rfl
  have HS := Lib.hid (sign_new n tag hn3 ht w0)
  by_cases hbad : tag = 0 ∨ 0 < a.lock.height
  · have HZ := Lib.hid (hz.trans (child_bad (by omega)))
    rw [hn]
    clear hz
    go_wp2_with fail
    refine HS.out.mono ?_
    rintro e w1 ⟨v1, rfl, p1, rfl, -, -, hb⟩
    have HB1 := Lib.hid (HB0.out.trans (hb.mono HB0.out.size))
    have HZ2 := Lib.hid ((hb.block _ hl2).trans HZ2.out)
    have c6 : w1.cell? ⟨X, 6, none⟩ = some (.int .u32 a.lock.height) := cell_at ((hb.block X (by omega)).trans HZ0.out)
    have r0 : w1.cell? ⟨X + 1 + 1, 0, none⟩ = some (.int .u32 0) := cell_at HZ2.out
    have r1 : w1.cell? ⟨X + 1 + 1, 1, none⟩ = some (.slice none 0 0) := cell_at HZ2.out
    have r2 : w1.cell? ⟨X + 1 + 1, 2, none⟩ = some (.slice none 0 0) := cell_at HZ2.out
    have r3 : w1.cell? ⟨X + 1 + 1, 3, none⟩ = some (.int .u32 0) := cell_at HZ2.out
    have f0 : w1.frozen? ⟨X + 1 + 1, 0, none⟩ = false := free_at HZ2.out
    have f1 : w1.frozen? ⟨X + 1 + 1, 1, none⟩ = false := free_at HZ2.out
    have f2 : w1.frozen? ⟨X + 1 + 1, 2, none⟩ = false := free_at HZ2.out
    have f3 : w1.frozen? ⟨X + 1 + 1, 3, none⟩ = false := free_at HZ2.out
    clear hb c3 hn
    by_cases ht0 : tag = 0
    · subst ht0
      go_wp2_with fail
      exact bodyPost_ret (v := .tuple #[.agg #[.int .u32 0, .slice none 0 0, .slice none 0 0, .int .u32 0], .int .i64 2]) (by simp [results, Try.results8, go_sem, r0, r1, r2, r3]) rfl (build_is HZ.out (tx_zero _ _) (set4_zero HB1.out hX2 _ _ _ _))
    · have ht1 : ¬ (tag : Int) = 0 := by omega
      have hh : 0 < a.lock.height := by omega
      go_wp2_with fail
      exact bodyPost_ret (v := .tuple #[.agg #[.int .u32 0, .slice none 0 0, .slice none 0 0, .int .u32 0], .int .i64 2]) (by simp [results, Try.results8, go_sem, r0, r1, r2, r3]) rfl (build_is HZ.out (tx_zero _ _) (set4_zero HB1.out hX2 _ _ _ _))
  have ht1 : ¬ (tag : Int) = 0 := by omega
  have ht2 : ((tag : Int) == 0) = false := by simpa using (show ¬ tag = 0 by omega)
  have hh0 : ¬ 0 < a.lock.height := by omega
  have hz2 : z = _ := hz.trans (if_neg (show ¬ (tag = 0 ∨ a.br < 0 ∨ 2 < a.br ∨ 0 < a.lock.height) by omega))
  have HQ2 := Lib.hid hz2
  rw [hn]
  clear hz hbad hb3 hz2
  go_wp2_with fail
  refine HS.out.mono ?_
  rintro e w1 ⟨v1, rfl, p1, rfl, -, -, hb⟩
  have hl2' : X + 1 + 1 < w1.heap.size := Nat.lt_of_lt_of_le hl2 hb.size
  have HB1 := Lib.hid (HB0.out.trans (hb.mono HB0.out.size))
  have HZ0 := Lib.hid ((hb.block X (by omega)).trans HZ0.out)
  have HZ1 := Lib.hid ((hb.block (X + 1) (by omega)).trans HZ1.out)
  have HZ2 := Lib.hid ((hb.block _ hl2).trans HZ2.out)
  have c6 : w1.cell? ⟨X, 6, none⟩ = some (.int .u32 a.lock.height) := cell_at HZ0.out
  have c2 : w1.cell? ⟨X, 2, none⟩ = some (.int .i64 a.val) := cell_at HZ0.out
  have d2 : w1.cell? ⟨X + 1, 2, none⟩ = some (.int .i64 cv) := cell_at HZ1.out
  have r0 : w1.cell? ⟨X + 1 + 1, 0, none⟩ = some (.int .u32 0) := cell_at HZ2.out
  have r1 : w1.cell? ⟨X + 1 + 1, 1, none⟩ = some (.slice none 0 0) := cell_at HZ2.out
  have r2 : w1.cell? ⟨X + 1 + 1, 2, none⟩ = some (.slice none 0 0) := cell_at HZ2.out
  have r3 : w1.cell? ⟨X + 1 + 1, 3, none⟩ = some (.int .u32 0) := cell_at HZ2.out
  have f0 : w1.frozen? ⟨X + 1 + 1, 0, none⟩ = false := free_at HZ2.out
  have f1 : w1.frozen? ⟨X + 1 + 1, 1, none⟩ = false := free_at HZ2.out
  have f2 : w1.frozen? ⟨X + 1 + 1, 2, none⟩ = false := free_at HZ2.out
  have f3 : w1.frozen? ⟨X + 1 + 1, 3, none⟩ = false := free_at HZ2.out
  have HG := Lib.hid (good_any fee w1)
  have HA := Lib.hid (add2_any a.val cv w1)
  clear hb c3 hn HS HB0
  rcases add2_cases a.val cv with ⟨ha, ga, gb, gab⟩ | ha
  rotate_left
  · rw [ha] at HA
    have HZ := Lib.hid (HQ2.out.trans (if_pos (.inl (by rw [ha]; decide))))
    clear ha
    go_wp2_with fail
    refine HA.out.mono ?_
    rintro e w' ⟨rfl, rfl⟩
    go_wp2_with fail
    exact bodyPost_ret (v := .tuple #[.agg #[.int .u32 0, .slice none 0 0, .slice none 0 0, .int .u32 0], .int .i64 3]) (by simp [results, Try.results8, go_sem, r0, r1, r2, r3]) rfl (build_is HZ.out (tx_zero _ _) (set4_zero HB1.out hX2 _ _ _ _))
  have hab := (goodA_iff _).1 gab
  rw [ha] at HA
  cases hg : goodA fee
  · rw [hg] at HG
    have HZ := Lib.hid (HQ2.out.trans (if_pos (.inr hg)))
    clear hg ha
    go_wp2_with fail
    refine HA.out.mono ?_
    rintro e w' ⟨rfl, rfl⟩
    go_wp2_with fail
    refine HG.out.mono ?_
    rintro e w' ⟨rfl, rfl⟩
    go_wp2_with fail
    exact bodyPost_ret (v := .tuple #[.agg #[.int .u32 0, .slice none 0 0, .slice none 0 0, .int .u32 0], .int .i64 3]) (by simp [results, Try.results8, go_sem, r0, r1, r2, r3]) rfl (build_is HZ.out (tx_zero _ _) (set4_zero HB1.out hX2 _ _ _ _))
  have hfe := (goodA_iff _).1 hg
  rw [hg] at HG
  have hz3 : z = _ := HQ2.out.trans (if_neg (by rw [ha, hg]; simp))
  clear hg ha
  by_cases hlt : a.val + cv < fee
  · have HZ := Lib.hid (hz3.trans (if_pos hlt))
    clear hz3
    go_wp2_with fail
    refine HA.out.mono ?_
    rintro e w' ⟨rfl, rfl⟩
    go_wp2_with fail
    refine HG.out.mono ?_
    rintro e w' ⟨rfl, rfl⟩
    go_wp2_with fail
    exact bodyPost_ret (v := .tuple #[.agg #[.int .u32 0, .slice none 0 0, .slice none 0 0, .int .u32 0], .int .i64 12]) (by simp [results, Try.results8, go_sem, r0, r1, r2, r3]) rfl (build_is HZ.out (tx_zero _ _) (set4_zero HB1.out hX2 _ _ _ _))
  have hz4 : z = _ := hz3.trans (if_neg hlt)
  obtain ⟨V, hV⟩ : ∃ V, V = a.val + cv - fee := ⟨_, rfl⟩
  rw [← hV] at hz4
  have hV2 : 0 ≤ V ∧ V ≤ 2100000000000000 := by omega
  have e0 : w1.cell? ⟨X, 0, none⟩ = some (.string a.id) := cell_at HZ0.out
  have e1 : w1.cell? ⟨X, 1, none⟩ = some (.int .u32 a.idx) := cell_at HZ0.out
  have e3 : w1.cell? ⟨X, 3, none⟩ = some (.int .i64 n) := by rw [cell_at HZ0.out, ← HN.out]; rfl
  have e4 : w1.cell? ⟨X, 4, none⟩ = some (.int .u16 a.lock.tag) := cell_at HZ0.out
  have e5 : w1.cell? ⟨X, 5, none⟩ = some (.int .u16 a.lock.delay) := cell_at HZ0.out
  have e7 : w1.cell? ⟨X, 7, none⟩ = some (.int .i64 a.dead) := cell_at HZ0.out
  have d0 : w1.cell? ⟨X + 1, 0, none⟩ = some (.string cid) := cell_at HZ1.out
  have d1 : w1.cell? ⟨X + 1, 1, none⟩ = some (.int .u32 ci) := cell_at HZ1.out
  have HM := Lib.hid (made_any a cid ci tag V HOK.out ⟨by rw [HN.out]; omega, by rw [HN.out]; omega⟩ hc hci ht (by omega) w1)
  unfold clV at HM
  rw [HN.out] at HM
  have HQ4 := Lib.hid hz4
  clear hz3 hz4
  go_wp2_with fail
  refine HA.out.mono ?_
  rintro e w' ⟨rfl, rfl⟩
  go_wp2_with fail
  refine HG.out.mono ?_
  rintro e w' ⟨rfl, rfl⟩
  go_wp2_with fail
  rw [← hV]
  refine HM.out.mono ?_
  rintro e w2 ⟨p, q, rfl, hq, gq, htx, hb⟩
  have hsz1 := HB1.out.size
  have hl3 : X + 1 + 1 < w2.heap.size := Nat.lt_of_lt_of_le hl2' hb.size
  have hq2 : q < w2.heap.size := (Array.getElem?_eq_some_iff.1 gq).1
  have HB2 := Lib.hid (HB1.out.trans (hb.mono HB1.out.size))
  have HZ2 := Lib.hid ((hb.block _ hl2').trans HZ2.out)
  unfold txV at htx ⊢
  have HTX := Lib.hid htx
  have HGQ := Lib.hid gq
  clear htx gq hb HM HG HA HZ0 HZ1 HB1 r0 r1 r2 r3 f0 f1 f2 f3 e0 e1 e3 e4 e5 e7 d0 d1 d2 c2 c6
  go_upto_region 10 with fail
  have hz := heap_alloc_new w2 (.cells #[.int .u32 2, .slice (some ⟨p, 0, none⟩) 2 2, .slice (some ⟨q, 0, none⟩) 1 1, .int .u32 0] 43)
  have hal : Below w2.heap.size w2 (w2.alloc (.cells #[.int .u32 2, .slice (some ⟨p, 0, none⟩) 2 2, .slice (some ⟨q, 0, none⟩) 1 1, .int .u32 0] 43)) := (Below.refl _ _).alloc (Nat.le_refl _) _
  obtain ⟨Y, hY⟩ : ∃ q, q = w2.heap.size := ⟨_, rfl⟩
  rw [← hY] at hz ⊢
  generalize w2.alloc (.cells #[.int .u32 2, .slice (some ⟨p, 0, none⟩) 2 2, .slice (some ⟨q, 0, none⟩) 1 1, .int .u32 0] 43) = w3 at *
  have y0 : w3.cell? ⟨Y, 0, none⟩ = some (.int .u32 2) := cell_at hz
  have y1 : w3.cell? ⟨Y, 1, none⟩ = some (.slice (some ⟨p, 0, none⟩) 2 2) := cell_at hz
  have y2 : w3.cell? ⟨Y, 2, none⟩ = some (.slice (some ⟨q, 0, none⟩) 1 1) := cell_at hz
  have y3 : w3.cell? ⟨Y, 3, none⟩ = some (.int .u32 0) := cell_at hz
  have q0 : w3.cell? ⟨q, 0, none⟩ = some (.int .i64 V) := cell_at ((hal.block q hq2).trans HGQ.out)
  have q1 : w3.cell? ⟨q, 1, none⟩ = some (.string (scrT tag)) := cell_at ((hal.block q hq2).trans HGQ.out)
  have hl4 : X + 1 + 1 < w3.heap.size := Nat.lt_of_lt_of_le hl3 hal.size
  have HB3 := Lib.hid (HB2.out.trans (hal.mono HB2.out.size))
  have HZ2 := Lib.hid ((hal.block _ hl3).trans HZ2.out)
  have HTX := Lib.hid (HTX.out.below hal)
  have HD := Lib.hid (dust_any (.agg #[.int .i64 V, .string (scrT tag)]) ⟨V, scrT tag⟩ w3 ⟨rfl, ⟨by show _ ≤ V; omega, by show V ≤ _; omega⟩, by show (scrT tag).size ≤ _; rw [scrT_size]; decide⟩)
  rw [child_dust] at HD
  clear hz hal HGQ HB2 hY hV
  by_cases hd : V < 255
  · have HZ := Lib.hid (HQ4.out.trans (if_pos hd))
    rw [decide_eq_true hd] at HD
    go_wp2_with fail
    refine HD.out.mono ?_
    rintro e w4 ⟨rfl, hb⟩
    have HB4 := Lib.hid (HB3.out.trans (hb.mono HB3.out.size))
    have HZ2 := Lib.hid ((hb.block _ hl4).trans HZ2.out)
    have r0 : w4.cell? ⟨X + 1 + 1, 0, none⟩ = some (.int .u32 0) := cell_at HZ2.out
    have r1 : w4.cell? ⟨X + 1 + 1, 1, none⟩ = some (.slice none 0 0) := cell_at HZ2.out
    have r2 : w4.cell? ⟨X + 1 + 1, 2, none⟩ = some (.slice none 0 0) := cell_at HZ2.out
    have r3 : w4.cell? ⟨X + 1 + 1, 3, none⟩ = some (.int .u32 0) := cell_at HZ2.out
    have f0 : w4.frozen? ⟨X + 1 + 1, 0, none⟩ = false := free_at HZ2.out
    have f1 : w4.frozen? ⟨X + 1 + 1, 1, none⟩ = false := free_at HZ2.out
    have f2 : w4.frozen? ⟨X + 1 + 1, 2, none⟩ = false := free_at HZ2.out
    have f3 : w4.frozen? ⟨X + 1 + 1, 3, none⟩ = false := free_at HZ2.out
    clear hb y0 y1 y2 y3 q0 q1
    go_wp2_with fail
    exact bodyPost_ret (v := .tuple #[.agg #[.int .u32 0, .slice none 0 0, .slice none 0 0, .int .u32 0], .int .i64 13]) (by simp [results, Try.results8, go_sem, r0, r1, r2, r3]) rfl (build_is HZ.out (tx_zero _ _) (set4_zero HB4.out hX2 _ _ _ _))
  have HQ5 := Lib.hid (HQ4.out.trans (if_neg hd))
  rw [decide_eq_false hd] at HD
  go_wp2_with fail
  refine HD.out.mono ?_
  rintro e w4 ⟨rfl, hb⟩
  have hl5 : X + 1 + 1 < w4.heap.size := Nat.lt_of_lt_of_le hl4 hb.size
  have HB4 := Lib.hid (HB3.out.trans (hb.mono HB3.out.size))
  have HZ2 := Lib.hid ((hb.block _ hl4).trans HZ2.out)
  have HTX := Lib.hid (HTX.out.below hb)
  replace y0 := below_cells hb _ _ y0
  replace y1 := below_cells hb _ _ y1
  replace y2 := below_cells hb _ _ y2
  replace y3 := below_cells hb _ _ y3
  clear hb q0 q1 HD HB3
  have HCK := Lib.hid (check_any _ _ w4 HTX.out.at (by show 1 ≤ 1000; decide))
  obtain ⟨ck, hck⟩ : ∃ ck, ck = checkOf (childTx a cid ci tag V) := ⟨_, rfl⟩
  rw [← hck] at HCK HQ5
  go_wp2_with fail
  refine HCK.out.mono ?_
  rintro e w5 ⟨rfl, hb⟩
  have HB5 := Lib.hid (HB4.out.trans (hb.mono HB4.out.size))
  have HZ2 := Lib.hid ((hb.block _ hl5).trans HZ2.out)
  have HTX := Lib.hid (HTX.out.below hb)
  replace y0 := below_cells hb _ _ y0
  replace y1 := below_cells hb _ _ y1
  replace y2 := below_cells hb _ _ y2
  replace y3 := below_cells hb _ _ y3
  have r0 : w5.cell? ⟨X + 1 + 1, 0, none⟩ = some (.int .u32 0) := cell_at HZ2.out
  have r1 : w5.cell? ⟨X + 1 + 1, 1, none⟩ = some (.slice none 0 0) := cell_at HZ2.out
  have r2 : w5.cell? ⟨X + 1 + 1, 2, none⟩ = some (.slice none 0 0) := cell_at HZ2.out
  have r3 : w5.cell? ⟨X + 1 + 1, 3, none⟩ = some (.int .u32 0) := cell_at HZ2.out
  have f0 : w5.frozen? ⟨X + 1 + 1, 0, none⟩ = false := free_at HZ2.out
  have f1 : w5.frozen? ⟨X + 1 + 1, 1, none⟩ = false := free_at HZ2.out
  have f2 : w5.frozen? ⟨X + 1 + 1, 2, none⟩ = false := free_at HZ2.out
  have f3 : w5.frozen? ⟨X + 1 + 1, 3, none⟩ = false := free_at HZ2.out
  clear hb HCK hck
  by_cases hc0 : ck = 0
  · subst hc0
    have HZ := Lib.hid (HQ5.out.trans (if_neg (by simp)))
    go_wp2_with fail
    exact bodyPost_ret (v := .tuple #[.agg #[.int .u32 2, .slice (some ⟨p, 0, none⟩) 2 2, .slice (some ⟨q, 0, none⟩) 1 1, .int .u32 0], .int .i64 0]) (by simp [results, Try.results8, go_sem, r0, r1, r2, r3]) rfl (build_is HZ.out (((((HTX.out.store _ _ hl2').store _ _ hl2').store _ _ hl2').store _ _ hl2').low hsz1) (set4_zero HB5.out hX2 _ _ _ _))
  · have HZ := Lib.hid (HQ5.out.trans (if_pos hc0))
    have hne : (ck == 0) = false := by simpa using hc0
    go_wp2_with fail
    exact bodyPost_ret (v := .tuple #[.agg #[.int .u32 0, .slice none 0 0, .slice none 0 0, .int .u32 0], .int .i64 ck]) (by simp [results, Try.results8, go_sem, r0, r1, r2, r3]) rfl (build_is HZ.out (tx_zero _ _) (set4_zero HB5.out hX2 _ _ _ _))
end Go.Proofs.Ytmakghcoehkphaa
end

section
/-
  The document's Build of a child. Conditions: the numbers are ones of their kinds.
-/
namespace Go.Proofs.Ytmakghcoehkphaa
open Go.RowKit Go.BigFrame
set_option linter.unusedVariables false
set_option linter.unusedSimpArgs false

theorem sum_add2 (a b : Int) : sumA 0 [a, b] = add2 a b := by
  unfold add2
  rw [sumA, Int.zero_add, sumA, sumA]
  cases h1 : goodA a <;> cases h2 : goodA b <;> cases h3 : goodA (a + b) <;> simp
theorem sl_two (w : World) (a b : Int) (ha : (Lit.int .i64 a).wf = true) (hb : (Lit.int .i64 b).wf = true) : SlAt (rpInt .i64) (w.alloc (.cells #[.int .i64 a, .int .i64 b] 3)) (.slice (some ⟨w.heap.size, 0, none⟩) 2 2) [a, b] := by
  refine ⟨_, 2, rfl, Nat.le_refl _, by decide, fun i x hi => ?_⟩
  match i, hi with
  | 0, hi =>
    obtain rfl := Option.some.inj hi
    refine ⟨_, 0, [.int .i64 a], rfl, rfl, fun j u hj => ?_, rfl, ha⟩
    rw [cell_at (heap_alloc_new w _)]
    match j, hj with
    | 0, hj => exact hj
  | 1, hi =>
    obtain rfl := Option.some.inj hi
    refine ⟨_, 0, [.int .i64 b], rfl, rfl, fun j u hj => ?_, rfl, hb⟩
    rw [cell_at (heap_alloc_new w _)]
    match j, hj with
    | 0, hj => exact hj
theorem rsum2_any (w : World) (a b : Int) (ha : (Lit.int .i64 a).wf = true) (hb : (Lit.int .i64 b).wf = true) : Calls Try.prog 28 #[.slice (some ⟨w.heap.size, 0, none⟩) 2 2] (w.alloc (.cells #[.int .i64 a, .int .i64 b] 3)) fun e w' =>
    e = .returned (.tuple #[.int .i64 (add2 a b).1, .int .i64 (add2 a b).2]) ∧ Below w.heap.size w w' :=
  (rasum_any _ [a, b] _ (sl_two w a b ha hb)).mono fun e w' ⟨h1, h2⟩ => ⟨by rw [h1, sum_add2], by rw [← h2]; exact (Below.refl _ _).alloc (Nat.le_refl _) _⟩
theorem first_child (V : Int) (tag : Nat) : firstD [⟨V, scrT tag⟩] 0 = if V < 255 then 0 else -1 := by
  rw [firstD, child_dust]
  by_cases h : V < 255
  · rw [decide_eq_true h, if_pos h]; rfl
  · rw [decide_eq_false h, if_neg h]; rfl
theorem child_new {base : Nat} {w : World} {b1 b2 p1 p2 : Nat} {a : PCl} {cid : ByteArray} {ci tag : Nat} {v : Int} (ho : a.Ok) (hc : cid.size ≤ maxLen) (hci : ci < 4294967296) (hv : -9223372036854775808 ≤ v ∧ v ≤ 9223372036854775807)
    (h1 : w.heap[b1]? = some (.cells #[.string a.id, .int .u32 a.idx, .int .u32 (seqOf a.lock.delay), .slice (some ⟨p1, 0, none⟩) 1 1, .string cid, .int .u32 ci, .int .u32 4294967293, .slice (some ⟨p2, 0, none⟩) 1 1] 81 (0, 0)))
    (h2 : w.heap[b2]? = some (.cells #[.int .i64 v, .string (scrT tag)] 37 (0, 0))) (g1 : w.heap[p1]? = some (.cells #[.string (signW a.br.toNat tag)] 9 (0, 0))) (g2 : w.heap[p2]? = some (.cells #[.string (signW 0 tag)] 9 (0, 0)))
    (k : base ≤ b1 ∧ base ≤ b2 ∧ base ≤ p1 ∧ base ≤ p2) : TxNew base w (txV b1 b2) (childTx a cid ci tag v) := fun w' hw' => by
  have key : ∀ (q : Nat) (ob : Obj), base ≤ q → w.heap[q]? = some ob → w'.heap[q]? = some ob := fun q ob hq hg => (hw' q hq (Array.getElem?_eq_some_iff.1 hg).1).trans hg
  exact child_at ho hc hci hv (key b1 _ k.1 h1) (key b2 _ k.2.1 h2) (key p1 _ k.2.2.1 g1) (key p2 _ k.2.2.2 g2)
theorem stay {w w1 : World} {b : Nat} {ob : Obj} (h : w.heap[b]? = some ob) (hb : Below w.heap.size w w1) : w1.heap[b]? = some ob := (hb.block _ (Array.getElem?_eq_some_iff.1 h).1).trans h
theorem stay_set {w : World} {b B j : Nat} {ob : Obj} {u : Value} (h : w.heap[b]? = some ob) (hb : b ≠ B) : (w.setCell ⟨B, j, none⟩ u).heap[b]? = some ob := (Below.heap_setCell _ _ _ _ hb).trans h
theorem lt_of {w : World} {b : Nat} {ob : Obj} (h : w.heap[b]? = some ob) : b < w.heap.size := (Array.getElem?_eq_some_iff.1 h).1
/-- One block of a world has these cells, the others are another world's. -/
structure AB (wA : World) (A : Nat) (cs : Array Value) (t : TypeId) (wx : World) : Prop where
  other : ∀ b, b ≠ A → wx.heap[b]? = wA.heap[b]?
  here : wx.heap[A]? = some (.cells cs t (0, 0))
  bel : Below A wA wx

set_option maxRecDepth 100000 in
set_option maxHeartbeats 4000000 in
theorem rbuild_any (a : PCl) (cid : ByteArray) (ci : Nat) (cv : Int) (cs : ByteArray) (ch : Int) (tag : Nat) (fee : Int) (ho : a.Ok) (hc : cid.size ≤ maxLen) (hci : ci < 4294967296) (hcv : (Lit.int .i64 cv).wf = true) (ht : tag < 65536) (w : World) :
    Calls Try.prog 9 #[clV a, enV cid ci cv cs ch, .int .u16 tag, .int .i64 fee] w (BuildIs (childOf a cid ci cv tag fee) w) := by
  obtain ⟨z, hzz⟩ : ∃ z, z = childOf a cid ci cv tag fee := ⟨_, rfl⟩
  rw [← hzz]
  have HOK := Lib.hid ho
  have hhg := ho.lock.height
  have hdl := ho.lock.delay
  have HVW := Lib.hid (wf_of ho.val)
  unfold clV enV
  clear ho
  go_enter Try.func9, Try.ntmps9
  go_upto_region 1 with fail
  obtain ⟨X, hX⟩ : ∃ q, q = w.heap.size := ⟨_, rfl⟩
  have hnews := new3 w X hX (.cells #[.string a.id, .int .u32 a.idx, .int .i64 a.val, .int .i64 a.br, .int .u16 a.lock.tag, .int .u16 a.lock.delay, .int .u32 a.lock.height, .int .i64 a.dead] 29) (.cells #[.string cid, .int .u32 ci, .int .i64 cv, .string cs, .int .i64 ch] 51) (.cells #[.int .u32 0, .slice none 0 0, .slice none 0 0, .int .u32 0] 43)
  rw [← hX]
  generalize (((w.alloc (.cells #[.string a.id, .int .u32 a.idx, .int .i64 a.val, .int .i64 a.br, .int .u16 a.lock.tag, .int .u16 a.lock.delay, .int .u32 a.lock.height, .int .i64 a.dead] 29)).alloc (.cells #[.string cid, .int .u32 ci, .int .i64 cv, .string cs, .int .i64 ch] 51)).alloc (.cells #[.int .u32 0, .slice none 0 0, .slice none 0 0, .int .u32 0] 43)) = w0 at *
  obtain ⟨hz0, hz1, hz2, hal⟩ := hnews
  have hX2 : w.heap.size ≤ X + 1 + 1 := by omega
  have hXX : w.heap.size ≤ X := by omega
  have hl2 : X + 1 + 1 < w0.heap.size := (Array.getElem?_eq_some_iff.1 hz2).1
  have HB0 := Lib.hid hal
  have HZ0 := Lib.hid hz0
  have HZ1 := Lib.hid hz1
  have HZ2 := Lib.hid hz2
  clear hz0 hz1 hz2 hal hX
  go_upto_region 2 with fail
  have hz := heap_alloc_new w0 (.cells #[.int .u32 0, .slice none 0 0, .slice none 0 0, .int .u32 0] 43)
  have hal : Below w0.heap.size w0 (w0.alloc (.cells #[.int .u32 0, .slice none 0 0, .slice none 0 0, .int .u32 0] 43)) := (Below.refl _ _).alloc (Nat.le_refl _) _
  obtain ⟨N, hN⟩ : ∃ q, q = w0.heap.size := ⟨_, rfl⟩
  rw [← hN] at hz ⊢
  generalize w0.alloc (.cells #[.int .u32 0, .slice none 0 0, .slice none 0 0, .int .u32 0] 43) = w1 at *
  have hl3 : X + 1 + 1 < w1.heap.size := Nat.lt_of_lt_of_le hl2 hal.size
  have hN1 : X + 1 + 1 < N := by omega
  have hN2 : N < w1.heap.size := (Array.getElem?_eq_some_iff.1 hz).1
  have HB1 := Lib.hid (HB0.out.trans (hal.mono HB0.out.size))
  have HN0 := Lib.hid hz
  have HZ0 := Lib.hid ((hal.block X (by omega)).trans HZ0.out)
  have HZ1 := Lib.hid ((hal.block (X + 1) (by omega)).trans HZ1.out)
  have HZ2 := Lib.hid ((hal.block _ hl2).trans HZ2.out)
  clear hal hz hN HB0
  have c3 : w1.cell? ⟨X, 3, none⟩ = some (.int .i64 a.br) := cell_at HZ0.out
  have c6 : w1.cell? ⟨X, 6, none⟩ = some (.int .u32 a.lock.height) := cell_at HZ0.out
  have n0 : w1.cell? ⟨N, 0, none⟩ = some (.int .u32 0) := cell_at HN0.out
  have n1 : w1.cell? ⟨N, 1, none⟩ = some (.slice none 0 0) := cell_at HN0.out
  have n2 : w1.cell? ⟨N, 2, none⟩ = some (.slice none 0 0) := cell_at HN0.out
  have n3 : w1.cell? ⟨N, 3, none⟩ = some (.int .u32 0) := cell_at HN0.out
  have r0 : w1.cell? ⟨X + 1 + 1, 0, none⟩ = some (.int .u32 0) := cell_at HZ2.out
  have r1 : w1.cell? ⟨X + 1 + 1, 1, none⟩ = some (.slice none 0 0) := cell_at HZ2.out
  have r2 : w1.cell? ⟨X + 1 + 1, 2, none⟩ = some (.slice none 0 0) := cell_at HZ2.out
  have r3 : w1.cell? ⟨X + 1 + 1, 3, none⟩ = some (.int .u32 0) := cell_at HZ2.out
  have f0 : w1.frozen? ⟨X + 1 + 1, 0, none⟩ = false := free_at HZ2.out
  have f1 : w1.frozen? ⟨X + 1 + 1, 1, none⟩ = false := free_at HZ2.out
  have f2 : w1.frozen? ⟨X + 1 + 1, 2, none⟩ = false := free_at HZ2.out
  have f3 : w1.frozen? ⟨X + 1 + 1, 3, none⟩ = false := free_at HZ2.out
  by_cases hbad : tag = 0 ∨ a.br < 0 ∨ 2 < a.br ∨ 0 < a.lock.height
  · have HZ := Lib.hid (hzz.trans (child_bad hbad))
    have hcase : tag = 0 ∨ (¬ tag = 0 ∧ a.br < 0) ∨ (¬ tag = 0 ∧ ¬ a.br < 0 ∧ 2 < a.br) ∨ (¬ tag = 0 ∧ ¬ a.br < 0 ∧ ¬ 2 < a.br ∧ 0 < a.lock.height) := by omega
    clear hbad hzz
    rcases hcase with h1 | ⟨h1, h2⟩ | ⟨h1, h2, h3⟩ | ⟨h1, h2, h3, h4⟩
    · subst h1
      go_wp2_with fail
      exact bodyPost_ret (v := .tuple #[.agg #[.int .u32 0, .slice none 0 0, .slice none 0 0, .int .u32 0], .int .i64 2]) (by simp [results, Try.results9, go_sem, r0, r1, r2, r3]) rfl (build_is HZ.out (tx_zero _ _) (set4_zero HB1.out hX2 _ _ _ _))
    · have ht2 : ((tag : Int) == 0) = false := by simpa using h1
      go_wp2_with fail
      exact bodyPost_ret (v := .tuple #[.agg #[.int .u32 0, .slice none 0 0, .slice none 0 0, .int .u32 0], .int .i64 2]) (by simp [results, Try.results9, go_sem, r0, r1, r2, r3]) rfl (build_is HZ.out (tx_zero _ _) (set4_zero HB1.out hX2 _ _ _ _))
    · have ht2 : ((tag : Int) == 0) = false := by simpa using h1
      go_wp2_with fail
      exact bodyPost_ret (v := .tuple #[.agg #[.int .u32 0, .slice none 0 0, .slice none 0 0, .int .u32 0], .int .i64 2]) (by simp [results, Try.results9, go_sem, r0, r1, r2, r3]) rfl (build_is HZ.out (tx_zero _ _) (set4_zero HB1.out hX2 _ _ _ _))
    · have ht2 : ((tag : Int) == 0) = false := by simpa using h1
      go_wp2_with fail
      exact bodyPost_ret (v := .tuple #[.agg #[.int .u32 0, .slice none 0 0, .slice none 0 0, .int .u32 0], .int .i64 2]) (by simp [results, Try.results9, go_sem, r0, r1, r2, r3]) rfl (build_is HZ.out (tx_zero _ _) (set4_zero HB1.out hX2 _ _ _ _))
  have ht2 : ((tag : Int) == 0) = false := by simpa using (show ¬ tag = 0 by omega)
  have hh0 : ¬ 0 < a.lock.height := by omega
  have hb1 : ¬ a.br < 0 := by omega
  have hb2 : ¬ 2 < a.br := by omega
  have HQ2 := Lib.hid (hzz.trans (if_neg hbad))
  clear hzz hbad
  have c2 : w1.cell? ⟨X, 2, none⟩ = some (.int .i64 a.val) := cell_at HZ0.out
  have d2 : w1.cell? ⟨X + 1, 2, none⟩ = some (.int .i64 cv) := cell_at HZ1.out
  have HA := Lib.hid (rsum2_any w1 a.val cv HVW.out hcv)
  have HAC := Lib.hid (add2_cases a.val cv)
  clear hcv
  obtain ⟨su, hsu⟩ : ∃ su, su = add2 a.val cv := ⟨_, rfl⟩
  rw [← hsu] at HA HAC HQ2
  obtain ⟨s1, s2⟩ := su
  have HSU := Lib.hid hsu
  clear hsu
  dsimp only at *
  go_wp2_with fail
  refine HA.out.mono ?_
  rintro e w2 ⟨rfl, hb⟩
  have hl3' : X + 1 + 1 < w2.heap.size := Nat.lt_of_lt_of_le hl3 hb.size
  have hN2' : N < w2.heap.size := Nat.lt_of_lt_of_le hN2 hb.size
  have HB2 := Lib.hid (HB1.out.trans (hb.mono HB1.out.size))
  have HN0 := Lib.hid ((hb.block N hN2).trans HN0.out)
  have HZ0 := Lib.hid ((hb.block X (by omega)).trans HZ0.out)
  have HZ1 := Lib.hid ((hb.block (X + 1) (by omega)).trans HZ1.out)
  have HZ2 := Lib.hid ((hb.block _ hl3).trans HZ2.out)
  clear c3 c6 c2 d2 n0 n1 n2 n3 r0 r1 r2 r3 f0 f1 f2 f3 hb HA HB1
  have n0 : w2.cell? ⟨N, 0, none⟩ = some (.int .u32 0) := cell_at HN0.out
  have n1 : w2.cell? ⟨N, 1, none⟩ = some (.slice none 0 0) := cell_at HN0.out
  have n2 : w2.cell? ⟨N, 2, none⟩ = some (.slice none 0 0) := cell_at HN0.out
  have n3 : w2.cell? ⟨N, 3, none⟩ = some (.int .u32 0) := cell_at HN0.out
  have r0 : w2.cell? ⟨X + 1 + 1, 0, none⟩ = some (.int .u32 0) := cell_at HZ2.out
  have r1 : w2.cell? ⟨X + 1 + 1, 1, none⟩ = some (.slice none 0 0) := cell_at HZ2.out
  have r2 : w2.cell? ⟨X + 1 + 1, 2, none⟩ = some (.slice none 0 0) := cell_at HZ2.out
  have r3 : w2.cell? ⟨X + 1 + 1, 3, none⟩ = some (.int .u32 0) := cell_at HZ2.out
  have f0 : w2.frozen? ⟨X + 1 + 1, 0, none⟩ = false := free_at HZ2.out
  have f1 : w2.frozen? ⟨X + 1 + 1, 1, none⟩ = false := free_at HZ2.out
  have f2 : w2.frozen? ⟨X + 1 + 1, 2, none⟩ = false := free_at HZ2.out
  have f3 : w2.frozen? ⟨X + 1 + 1, 3, none⟩ = false := free_at HZ2.out
  have HG := Lib.hid (rgood_any fee w2)
  by_cases hs2 : s2 = 0
  rotate_left
  · have HZ := Lib.hid (HQ2.out.trans (if_pos (.inl hs2)))
    have hne : (s2 == 0) = false := by simpa using hs2
    go_wp2_with fail
    refine HG.out.mono ?_
    rintro e w' ⟨rfl, rfl⟩
    go_wp2_with fail
    exact bodyPost_ret (v := .tuple #[.agg #[.int .u32 0, .slice none 0 0, .slice none 0 0, .int .u32 0], .int .i64 3]) (by simp [results, Try.results9, go_sem, r0, r1, r2, r3]) rfl (build_is HZ.out (tx_zero _ _) (set4_zero HB2.out hX2 _ _ _ _))
  have hs1 : s1 = a.val + cv ∧ goodA s1 = true := by
    rcases HAC.out with ⟨h, -, -, h4⟩ | h
    · cases h; exact ⟨rfl, h4⟩
    · cases h; exact absurd hs2 (by decide)
  obtain ⟨hs1, hs3⟩ := hs1
  have hs4 := (goodA_iff _).1 hs3
  subst hs2
  cases hg : goodA fee
  · rw [hg] at HG
    have HZ := Lib.hid (HQ2.out.trans (if_pos (.inr hg)))
    clear hg hs1
    go_wp2_with fail
    refine HG.out.mono ?_
    rintro e w' ⟨rfl, rfl⟩
    go_wp2_with fail
    exact bodyPost_ret (v := .tuple #[.agg #[.int .u32 0, .slice none 0 0, .slice none 0 0, .int .u32 0], .int .i64 3]) (by simp [results, Try.results9, go_sem, r0, r1, r2, r3]) rfl (build_is HZ.out (tx_zero _ _) (set4_zero HB2.out hX2 _ _ _ _))
  have hfe := (goodA_iff _).1 hg
  rw [hg] at HG
  have HQ3 := Lib.hid (HQ2.out.trans (if_neg (by rw [hg]; simp)))
  rw [← hs1] at HQ3
  have HS1 := Lib.hid hs1
  clear hg hs1 HQ2
  by_cases hlt : s1 < fee
  · have HZ := Lib.hid (HQ3.out.trans (if_pos hlt))
    go_wp2_with fail
    refine HG.out.mono ?_
    rintro e w' ⟨rfl, rfl⟩
    go_wp2_with fail
    exact bodyPost_ret (v := .tuple #[.agg #[.int .u32 0, .slice none 0 0, .slice none 0 0, .int .u32 0], .int .i64 12]) (by simp [results, Try.results9, go_sem, r0, r1, r2, r3]) rfl (build_is HZ.out (tx_zero _ _) (set4_zero HB2.out hX2 _ _ _ _))
  have HQ4 := Lib.hid (HQ3.out.trans (if_neg hlt))
  have e0 : w2.cell? ⟨X, 0, none⟩ = some (.string a.id) := cell_at HZ0.out
  have e1 : w2.cell? ⟨X, 1, none⟩ = some (.int .u32 a.idx) := cell_at HZ0.out
  go_wp2_with fail
  refine HG.out.mono ?_
  rintro e w' ⟨rfl, rfl⟩
  go_upto_region 11 with fail
  have hz := heap_alloc_new w2 (.cells #[.string a.id, .int .u32 a.idx, .int .u32 4294967293, .slice none 0 0] 81)
  have hal : Below w2.heap.size w2 (w2.alloc (.cells #[.string a.id, .int .u32 a.idx, .int .u32 4294967293, .slice none 0 0] 81)) := (Below.refl _ _).alloc (Nat.le_refl _) _
  obtain ⟨A, hA⟩ : ∃ q, q = w2.heap.size := ⟨_, rfl⟩
  rw [← hA] at hz ⊢
  generalize w2.alloc (.cells #[.string a.id, .int .u32 a.idx, .int .u32 4294967293, .slice none 0 0] 81) = w3 at *
  have hAX : X + 1 + 1 < A := by omega
  have hAN : N < A := by omega
  have HB3 := Lib.hid (HB2.out.trans (hal.mono HB2.out.size))
  have HZ0 := Lib.hid (stay HZ0.out hal)
  have HZ1 := Lib.hid (stay HZ1.out hal)
  have HZ2 := Lib.hid (stay HZ2.out hal)
  have HN0 := Lib.hid (stay HN0.out hal)
  have HA := Lib.hid hz
  have c5 : w3.cell? ⟨X, 5, none⟩ = some (.int .u16 a.lock.delay) := cell_at HZ0.out
  have a2 : w3.cell? ⟨A, 2, none⟩ = some (.int .u32 4294967293) := cell_at hz
  have b2 : w3.frozen? ⟨A, 2, none⟩ = false := free_at hz
  clear hal hz hA e0 e1 n0 n1 n2 n3 r0 r1 r2 r3 f0 f1 f2 f3 HB2 HG
  go_upto_if 69 with fail
  go_cut [] (fun wx => AB w3 A #[.string a.id, .int .u32 a.idx, .int .u32 (seqOf a.lock.delay), .slice none 0 0] 81 wx)
  case first =>
    by_cases hd : 0 < a.lock.delay
    · have HS := Lib.hid (show seqOf a.lock.delay = a.lock.delay from if_pos hd)
      go_wp2_with fail
      go_meet
      rw [HS.out]
      exact ⟨fun b hb => Below.heap_setCell _ _ _ _ hb, heap_setCell_at HA.out, (Below.refl _ _).setCell (p := ⟨A, 2, none⟩) (Nat.le_refl _) _⟩
    · have HS := Lib.hid (show seqOf a.lock.delay = 4294967293 from if_neg hd)
      go_wp2_with fail
      go_meet
      rw [HS.out]
      exact ⟨fun b hb => rfl, HA.out, Below.refl _ _⟩
  case rest =>
    rename World => w4
    obtain ⟨hO, hH, hbl⟩ := hcut
    have HB4 := Lib.hid (HB3.out.trans (hbl.mono (by omega)))
    have HZ0 := Lib.hid ((hO X (by omega)).trans HZ0.out)
    have HZ1 := Lib.hid ((hO (X + 1) (by omega)).trans HZ1.out)
    have HZ2 := Lib.hid ((hO (X + 1 + 1) (by omega)).trans HZ2.out)
    have HN0 := Lib.hid ((hO N (by omega)).trans HN0.out)
    have HA := Lib.hid hH
    obtain ⟨n, hn⟩ : ∃ n : Nat, a.br = n := ⟨a.br.toNat, by omega⟩
    have hn3 : n < 3 := by omega
    have HNB := Lib.hid (show a.br.toNat = n by omega)
    have c3 : w4.cell? ⟨X, 3, none⟩ = some (.int .i64 n) := by rw [cell_at HZ0.out, ← hn]; rfl
    have hAX2 : w.heap.size ≤ A := by omega
    have hA4 := lt_of HA.out
    clear hO hH hbl c5 a2 b2 HB3
    rw [hn]
    clear hn
    go_wp2_with fail
    refine (rsign_new n tag hn3 ht w4).mono ?_
    rintro e w5 ⟨v1, rfl, p1, rfl, hp1, g1, hb⟩
    have HB5 := Lib.hid (HB4.out.trans (hb.mono HB4.out.size))
    have HZ0 := Lib.hid (stay HZ0.out hb)
    have HZ1 := Lib.hid (stay HZ1.out hb)
    have HZ2 := Lib.hid (stay HZ2.out hb)
    have HN0 := Lib.hid (stay HN0.out hb)
    have HA := Lib.hid (stay HA.out hb)
    have HG1 := Lib.hid g1
    have a3 : w5.cell? ⟨A, 3, none⟩ = some (.slice none 0 0) := cell_at HA.out
    have b3 : w5.frozen? ⟨A, 3, none⟩ = false := free_at HA.out
    clear c3 g1 hb HB4
    go_upto_region 14 with fail
    have hA6 := heap_setCell_at (j := 3) (u := .slice (some ⟨p1, 0, none⟩) 1 1) HA.out
    have HZ0 := Lib.hid (stay_set (B := A) (j := 3) (u := .slice (some ⟨p1, 0, none⟩) 1 1) HZ0.out (by omega))
    have HZ1 := Lib.hid (stay_set (B := A) (j := 3) (u := .slice (some ⟨p1, 0, none⟩) 1 1) HZ1.out (by omega))
    have HZ2 := Lib.hid (stay_set (B := A) (j := 3) (u := .slice (some ⟨p1, 0, none⟩) 1 1) HZ2.out (by omega))
    have HN0 := Lib.hid (stay_set (B := A) (j := 3) (u := .slice (some ⟨p1, 0, none⟩) 1 1) HN0.out (by omega))
    have HG1 := Lib.hid (stay_set (B := A) (j := 3) (u := .slice (some ⟨p1, 0, none⟩) 1 1) HG1.out (by omega))
    have HB6 := Lib.hid (HB5.out.setCell (p := ⟨A, 3, none⟩) hAX2 (.slice (some ⟨p1, 0, none⟩) 1 1))
    generalize w5.setCell ⟨A, 3, none⟩ (.slice (some ⟨p1, 0, none⟩) 1 1) = w6 at *
    have HA := Lib.hid hA6
    have d0 : w6.cell? ⟨X + 1, 0, none⟩ = some (.string cid) := cell_at HZ1.out
    have d1 : w6.cell? ⟨X + 1, 1, none⟩ = some (.int .u32 ci) := cell_at HZ1.out
    clear hA6 a3 b3 HB5
    go_upto_region 15 with fail
    have hz := heap_alloc_new w6 (.cells #[.string cid, .int .u32 ci, .int .u32 4294967293, .slice none 0 0] 81)
    have hal : Below w6.heap.size w6 (w6.alloc (.cells #[.string cid, .int .u32 ci, .int .u32 4294967293, .slice none 0 0] 81)) := (Below.refl _ _).alloc (Nat.le_refl _) _
    obtain ⟨B, hB⟩ : ∃ q, q = w6.heap.size := ⟨_, rfl⟩
    rw [← hB] at hz ⊢
    generalize w6.alloc (.cells #[.string cid, .int .u32 ci, .int .u32 4294967293, .slice none 0 0] 81) = w7 at *
    have hp1A : A < p1 := by omega
    have hB6 := lt_of HG1.out
    have hBA : A < B := by omega
    have hBp : p1 < B := by omega
    have hBX2 : w.heap.size ≤ B := by omega
    have HB7 := Lib.hid (HB6.out.trans (hal.mono HB6.out.size))
    have HZ0 := Lib.hid (stay HZ0.out hal)
    have HZ2 := Lib.hid (stay HZ2.out hal)
    have HN0 := Lib.hid (stay HN0.out hal)
    have HA := Lib.hid (stay HA.out hal)
    have HG1 := Lib.hid (stay HG1.out hal)
    have HB := Lib.hid hz
    clear hal hz hB d0 d1 HB6 HZ1
    go_wp2_with fail
    refine (rsign_new 0 tag (by omega) ht w7).mono ?_
    rintro e w8 ⟨v2, rfl, p2, rfl, hp2, g2, hb⟩
    have HB8 := Lib.hid (HB7.out.trans (hb.mono HB7.out.size))
    have hB7 := lt_of HB.out
    have HZ0 := Lib.hid (stay HZ0.out hb)
    have HZ2 := Lib.hid (stay HZ2.out hb)
    have HN0 := Lib.hid (stay HN0.out hb)
    have HA := Lib.hid (stay HA.out hb)
    have HG1 := Lib.hid (stay HG1.out hb)
    have HB := Lib.hid (stay HB.out hb)
    have HG2 := Lib.hid g2
    have hp2B : B < p2 := by omega
    have a3 : w8.cell? ⟨B, 3, none⟩ = some (.slice none 0 0) := cell_at HB.out
    have b3 : w8.frozen? ⟨B, 3, none⟩ = false := free_at HB.out
    clear g2 hb HB7
    go_upto_region 16 with fail
    have hB9 := heap_setCell_at (j := 3) (u := .slice (some ⟨p2, 0, none⟩) 1 1) HB.out
    have HZ0 := Lib.hid (stay_set (B := B) (j := 3) (u := .slice (some ⟨p2, 0, none⟩) 1 1) HZ0.out (by omega))
    have HZ2 := Lib.hid (stay_set (B := B) (j := 3) (u := .slice (some ⟨p2, 0, none⟩) 1 1) HZ2.out (by omega))
    have HN0 := Lib.hid (stay_set (B := B) (j := 3) (u := .slice (some ⟨p2, 0, none⟩) 1 1) HN0.out (by omega))
    have HA := Lib.hid (stay_set (B := B) (j := 3) (u := .slice (some ⟨p2, 0, none⟩) 1 1) HA.out (by omega))
    have HG1 := Lib.hid (stay_set (B := B) (j := 3) (u := .slice (some ⟨p2, 0, none⟩) 1 1) HG1.out (by omega))
    have HG2 := Lib.hid (stay_set (B := B) (j := 3) (u := .slice (some ⟨p2, 0, none⟩) 1 1) HG2.out (by omega))
    have HB9 := Lib.hid (HB8.out.setCell (p := ⟨B, 3, none⟩) hBX2 (.slice (some ⟨p2, 0, none⟩) 1 1))
    generalize w8.setCell ⟨B, 3, none⟩ (.slice (some ⟨p2, 0, none⟩) 1 1) = w9 at *
    have HB := Lib.hid hB9
    clear hB9 a3 b3 HB8
    go_wp2_with fail
    refine (rscript_any tag ht w9).mono ?_
    rintro e w10 ⟨rfl, hb⟩
    have HB10 := Lib.hid (HB9.out.trans (hb.mono HB9.out.size))
    have HZ0 := Lib.hid (stay HZ0.out hb)
    have HZ2 := Lib.hid (stay HZ2.out hb)
    have HN0 := Lib.hid (stay HN0.out hb)
    have HA := Lib.hid (stay HA.out hb)
    have HG1 := Lib.hid (stay HG1.out hb)
    have HB := Lib.hid (stay HB.out hb)
    have HG2 := Lib.hid (stay HG2.out hb)
    have a0 : w10.cell? ⟨A, 0, none⟩ = some (.string a.id) := cell_at HA.out
    have a1 : w10.cell? ⟨A, 1, none⟩ = some (.int .u32 a.idx) := cell_at HA.out
    have a2 : w10.cell? ⟨A, 2, none⟩ = some (.int .u32 (seqOf a.lock.delay)) := cell_at HA.out
    have a3 : w10.cell? ⟨A, 3, none⟩ = some (.slice (some ⟨p1, 0, none⟩) 1 1) := cell_at HA.out
    have b0 : w10.cell? ⟨B, 0, none⟩ = some (.string cid) := cell_at HB.out
    have b1 : w10.cell? ⟨B, 1, none⟩ = some (.int .u32 ci) := cell_at HB.out
    have b2 : w10.cell? ⟨B, 2, none⟩ = some (.int .u32 4294967293) := cell_at HB.out
    have b3 : w10.cell? ⟨B, 3, none⟩ = some (.slice (some ⟨p2, 0, none⟩) 1 1) := cell_at HB.out
    clear hb HB9
    go_upto_region 18 with fail
    obtain ⟨V, hV⟩ : ∃ V, V = s1 - fee := ⟨_, rfl⟩
    rw [← hV] at HQ4 ⊢
    have hV2 : 0 ≤ V ∧ V ≤ 2100000000000000 := by omega
    clear hV
    obtain ⟨R, hR⟩ : ∃ q, q = w10.heap.size := ⟨_, rfl⟩
    have hnews := new3 w10 R hR (.cells #[.string a.id, .int .u32 a.idx, .int .u32 (seqOf a.lock.delay), .slice (some ⟨p1, 0, none⟩) 1 1, .string cid, .int .u32 ci, .int .u32 4294967293, .slice (some ⟨p2, 0, none⟩) 1 1] 81) (.cells #[.int .i64 V, .string (scrT tag)] 37) (.cells #[.int .u32 2, .slice (some ⟨R, 0, none⟩) 2 2, .slice (some ⟨R + 1, 0, none⟩) 1 1, .int .u32 0] 43)
    rw [← hR]
    generalize (((w10.alloc (.cells #[.string a.id, .int .u32 a.idx, .int .u32 (seqOf a.lock.delay), .slice (some ⟨p1, 0, none⟩) 1 1, .string cid, .int .u32 ci, .int .u32 4294967293, .slice (some ⟨p2, 0, none⟩) 1 1] 81)).alloc (.cells #[.int .i64 V, .string (scrT tag)] 37)).alloc (.cells #[.int .u32 2, .slice (some ⟨R, 0, none⟩) 2 2, .slice (some ⟨R + 1, 0, none⟩) 1 1, .int .u32 0] 43)) = w11 at *
    obtain ⟨hz0, hz1, hz2, hal⟩ := hnews
    have hl11 := lt_of HG2.out
    have HB11 := Lib.hid (HB10.out.trans (hal.mono HB10.out.size))
    have HZ2 := Lib.hid (stay HZ2.out hal)
    have HN0 := Lib.hid (stay HN0.out hal)
    have HG1 := Lib.hid (stay HG1.out hal)
    have HG2 := Lib.hid (stay HG2.out hal)
    have HTX := Lib.hid (child_new (base := A) (v := V) (tag := tag) HOK.out hc hci (by omega) hz0 hz1 (by rw [HNB.out]; exact HG1.out) HG2.out ⟨by omega, by omega, by omega, by omega⟩)
    have HR2 := Lib.hid hz2
    unfold txV at HTX
    clear hal hz0 hz1 hz2 hR a0 a1 a2 a3 b0 b1 b2 b3 HB10 HZ0 HA HB HG1 HG2
    have HF := Lib.hid (rfirst_any _ _ w11 HTX.out.at)
    rw [show firstD (childTx a cid ci tag V).outs 0 = if V < 255 then 0 else -1 from first_child V tag] at HF
    have t0 : w11.cell? ⟨R + 1 + 1, 0, none⟩ = some (.int .u32 2) := cell_at HR2.out
    have t1 : w11.cell? ⟨R + 1 + 1, 1, none⟩ = some (.slice (some ⟨R, 0, none⟩) 2 2) := cell_at HR2.out
    have t2 : w11.cell? ⟨R + 1 + 1, 2, none⟩ = some (.slice (some ⟨R + 1, 0, none⟩) 1 1) := cell_at HR2.out
    have t3 : w11.cell? ⟨R + 1 + 1, 3, none⟩ = some (.int .u32 0) := cell_at HR2.out
    by_cases hd : V < 255
    · have HZ := Lib.hid (HQ4.out.trans (if_pos hd))
      rw [if_pos hd] at HF
      go_wp2_with fail
      refine HF.out.mono ?_
      rintro e w12 ⟨rfl, hb⟩
      have HB12 := Lib.hid (HB11.out.trans (hb.mono HB11.out.size))
      have HZ2 := Lib.hid (stay HZ2.out hb)
      have HN0 := Lib.hid (stay HN0.out hb)
      have n0 : w12.cell? ⟨N, 0, none⟩ = some (.int .u32 0) := cell_at HN0.out
      have n1 : w12.cell? ⟨N, 1, none⟩ = some (.slice none 0 0) := cell_at HN0.out
      have n2 : w12.cell? ⟨N, 2, none⟩ = some (.slice none 0 0) := cell_at HN0.out
      have n3 : w12.cell? ⟨N, 3, none⟩ = some (.int .u32 0) := cell_at HN0.out
      have r0 : w12.cell? ⟨X + 1 + 1, 0, none⟩ = some (.int .u32 0) := cell_at HZ2.out
      have r1 : w12.cell? ⟨X + 1 + 1, 1, none⟩ = some (.slice none 0 0) := cell_at HZ2.out
      have r2 : w12.cell? ⟨X + 1 + 1, 2, none⟩ = some (.slice none 0 0) := cell_at HZ2.out
      have r3 : w12.cell? ⟨X + 1 + 1, 3, none⟩ = some (.int .u32 0) := cell_at HZ2.out
      have f0 : w12.frozen? ⟨X + 1 + 1, 0, none⟩ = false := free_at HZ2.out
      have f1 : w12.frozen? ⟨X + 1 + 1, 1, none⟩ = false := free_at HZ2.out
      have f2 : w12.frozen? ⟨X + 1 + 1, 2, none⟩ = false := free_at HZ2.out
      have f3 : w12.frozen? ⟨X + 1 + 1, 3, none⟩ = false := free_at HZ2.out
      clear hb t0 t1 t2 t3
      go_wp2_with fail
      exact bodyPost_ret (v := .tuple #[.agg #[.int .u32 0, .slice none 0 0, .slice none 0 0, .int .u32 0], .int .i64 13]) (by simp [results, Try.results9, go_sem, r0, r1, r2, r3]) rfl (build_is HZ.out (tx_zero _ _) (set4_zero HB12.out hX2 _ _ _ _))
    have HQ5 := Lib.hid (HQ4.out.trans (if_neg hd))
    rw [if_neg hd] at HF
    go_wp2_with fail
    refine HF.out.mono ?_
    rintro e w12 ⟨rfl, hb⟩
    have HB12 := Lib.hid (HB11.out.trans (hb.mono HB11.out.size))
    have HZ2 := Lib.hid (stay HZ2.out hb)
    have HN0 := Lib.hid (stay HN0.out hb)
    have HR2 := Lib.hid (stay HR2.out hb)
    have HTX := Lib.hid (HTX.out.below hb)
    clear hb t0 t1 t2 t3 HF HB11
    have t0 : w12.cell? ⟨R + 1 + 1, 0, none⟩ = some (.int .u32 2) := cell_at HR2.out
    have t1 : w12.cell? ⟨R + 1 + 1, 1, none⟩ = some (.slice (some ⟨R, 0, none⟩) 2 2) := cell_at HR2.out
    have t2 : w12.cell? ⟨R + 1 + 1, 2, none⟩ = some (.slice (some ⟨R + 1, 0, none⟩) 1 1) := cell_at HR2.out
    have t3 : w12.cell? ⟨R + 1 + 1, 3, none⟩ = some (.int .u32 0) := cell_at HR2.out
    have HCK := Lib.hid (rcheck_any _ _ w12 HTX.out.at (by show 1 ≤ 1000; decide))
    obtain ⟨ck, hck⟩ : ∃ ck, ck = checkOf (childTx a cid ci tag V) := ⟨_, rfl⟩
    rw [← hck] at HCK HQ5
    go_wp2_with fail
    refine HCK.out.mono ?_
    rintro e w13 ⟨rfl, hb⟩
    have hl13 := lt_of HZ2.out
    have HB13 := Lib.hid (HB12.out.trans (hb.mono HB12.out.size))
    have HZ2 := Lib.hid (stay HZ2.out hb)
    have HN0 := Lib.hid (stay HN0.out hb)
    have HR2 := Lib.hid (stay HR2.out hb)
    have HTX := Lib.hid (HTX.out.below hb)
    clear hb t0 t1 t2 t3 HCK hck HB12
    have t0 : w13.cell? ⟨R + 1 + 1, 0, none⟩ = some (.int .u32 2) := cell_at HR2.out
    have t1 : w13.cell? ⟨R + 1 + 1, 1, none⟩ = some (.slice (some ⟨R, 0, none⟩) 2 2) := cell_at HR2.out
    have t2 : w13.cell? ⟨R + 1 + 1, 2, none⟩ = some (.slice (some ⟨R + 1, 0, none⟩) 1 1) := cell_at HR2.out
    have t3 : w13.cell? ⟨R + 1 + 1, 3, none⟩ = some (.int .u32 0) := cell_at HR2.out
    have n0 : w13.cell? ⟨N, 0, none⟩ = some (.int .u32 0) := cell_at HN0.out
    have n1 : w13.cell? ⟨N, 1, none⟩ = some (.slice none 0 0) := cell_at HN0.out
    have n2 : w13.cell? ⟨N, 2, none⟩ = some (.slice none 0 0) := cell_at HN0.out
    have n3 : w13.cell? ⟨N, 3, none⟩ = some (.int .u32 0) := cell_at HN0.out
    have r0 : w13.cell? ⟨X + 1 + 1, 0, none⟩ = some (.int .u32 0) := cell_at HZ2.out
    have r1 : w13.cell? ⟨X + 1 + 1, 1, none⟩ = some (.slice none 0 0) := cell_at HZ2.out
    have r2 : w13.cell? ⟨X + 1 + 1, 2, none⟩ = some (.slice none 0 0) := cell_at HZ2.out
    have r3 : w13.cell? ⟨X + 1 + 1, 3, none⟩ = some (.int .u32 0) := cell_at HZ2.out
    have f0 : w13.frozen? ⟨X + 1 + 1, 0, none⟩ = false := free_at HZ2.out
    have f1 : w13.frozen? ⟨X + 1 + 1, 1, none⟩ = false := free_at HZ2.out
    have f2 : w13.frozen? ⟨X + 1 + 1, 2, none⟩ = false := free_at HZ2.out
    have f3 : w13.frozen? ⟨X + 1 + 1, 3, none⟩ = false := free_at HZ2.out
    by_cases hc0 : ck = 0
    · subst hc0
      have HZ := Lib.hid (HQ5.out.trans (if_neg (by simp)))
      go_wp2_with fail
      exact bodyPost_ret (v := .tuple #[.agg #[.int .u32 2, .slice (some ⟨R, 0, none⟩) 2 2, .slice (some ⟨R + 1, 0, none⟩) 1 1, .int .u32 0], .int .i64 0]) (by simp [results, Try.results9, go_sem, r0, r1, r2, r3]) rfl (build_is HZ.out (((((HTX.out.store _ _ hAX).store _ _ hAX).store _ _ hAX).store _ _ hAX).low hAX2) (set4_zero HB13.out hX2 _ _ _ _))
    · have HZ := Lib.hid (HQ5.out.trans (if_pos hc0))
      have hne : (ck == 0) = false := by simpa using hc0
      go_wp2_with fail
      exact bodyPost_ret (v := .tuple #[.agg #[.int .u32 0, .slice none 0 0, .slice none 0 0, .int .u32 0], .int .i64 ck]) (by simp [results, Try.results9, go_sem, r0, r1, r2, r3]) rfl (build_is HZ.out (tx_zero _ _) (set4_zero HB13.out hX2 _ _ _ _))
end Go.Proofs.Ytmakghcoehkphaa
end
