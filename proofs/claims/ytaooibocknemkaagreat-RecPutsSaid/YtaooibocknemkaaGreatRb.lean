/-
  The program's reader: fail, number, count, bytes, four. Conditions: the place is in the text.
-/
import Derived.Test.YtaooibocknemkaaGreatQ8RecPuts
import Derived.Test.YtaooibocknemkaaGreatQ6RecPuts
namespace Go.Proofs.YtaooibocknemkaaGreat
open Go.RowKit Go.BigFrame
open Go.Lib (hid)
set_option linter.unusedVariables false
set_option linter.unusedSimpArgs false

/-- A reader in a block. -/
def RdAt (b : Nat) (s : ByteArray) (z : Zst) (w : World) : Prop := w.heap[b]? = some (.cells #[.string s, .int .i64 z.at_, .int .i64 z.err] 218 (0, 0))
theorem RdAt.lt {b : Nat} {s : ByteArray} {z : Zst} {w : World} (h : RdAt b s z w) : b < w.heap.size := (Array.getElem?_eq_some_iff.1 h).1
theorem RdAt.below {b : Nat} {s : ByteArray} {z : Zst} {w w' : World} (h : RdAt b s z w) (hb : Below w.heap.size w w') : RdAt b s z w' := (hb.block b h.lt).trans h
theorem RdAt.setErr {b : Nat} {s : ByteArray} {z : Zst} {w : World} (h : RdAt b s z w) (e : Int) : RdAt b s ⟨z.at_, e⟩ (w.setCell ⟨b, 2, none⟩ (.int .i64 e)) := heap_setCell_at h
theorem RdAt.setAt {b : Nat} {s : ByteArray} {z : Zst} {w : World} (h : RdAt b s z w) (n : Nat) : RdAt b s ⟨n, z.err⟩ (w.setCell ⟨b, 1, none⟩ (.int .i64 n)) := heap_setCell_at h
theorem Fr.trans' {F : List Nat} {a b c : World} (h : Fr F a b) (k : Fr F b c) : Fr F a c := h.trans (Onto.refl _ _) k
theorem Fr.bel {b : Nat} {w w' : World} (hb : Below w.heap.size w w') : Fr [b] w w' := Fr.of_below hb _
/-- It returns this value, the reader stands so, all else is as it was. -/
def RdIs (b : Nat) (s : ByteArray) (z : Zst) (v : Value) (w : World) (e : Ending) (w' : World) : Prop := e = .returned v ∧ RdAt b s z w' ∧ Fr [b] w w'
theorem RdIs.mk' {b : Nat} {s : ByteArray} {z z' : Zst} {v v' : Value} {w w' : World} (hz : z' = z) (hv : v' = v) (h : RdAt b s z w') (k : Fr [b] w w') : RdIs b s z' v' w (.returned v) w' := ⟨by rw [hv], hz ▸ h, k⟩
def failZ (z : Zst) (e : Int) : Zst := ⟨z.at_, if z.err = 0 then e else z.err⟩
theorem failZ_ne {z : Zst} {e : Int} (he : e ≠ 0) : (failZ z e).err ≠ 0 := by
  unfold failZ
  dsimp only
  split
  · exact he
  · assumption
set_option maxHeartbeats 1000000 in
theorem fail_any (b : Nat) (s : ByteArray) (z : Zst) (c : Int) (w : World) (h : RdAt b s z w) : Calls Tryz.prog 187 #[.pointer (some ⟨b, 0, none⟩), .int .i64 c] w (RdIs b s (failZ z c) (.tuple #[]) w) := by
  have d2 : w.cell? ⟨b, 2, none⟩ = some (.int .i64 z.err) := cell_at h
  have f2 : w.frozen? ⟨b, 2, none⟩ = false := free_at h
  by_cases hz : z.err = 0
  · have HF := hid (show RdAt b s (failZ z c) (w.setCell ⟨b, 2, none⟩ (.int .i64 c)) by have := h.setErr c; unfold failZ; rw [if_pos hz]; exact this)
    rw [hz] at d2
    clear h hz
    go_enter Tryz.func187, Tryz.ntmps187
    go_wp2
    exact bodyPost_end (v := .tuple #[]) (by kernel_rfl) rfl ⟨rfl, HF.out, Fr.setCell _ _ _ (by simp)⟩
  · have HF := hid (show RdAt b s (failZ z c) w by unfold failZ; rw [if_neg hz]; exact h)
    have hz1 : (z.err == 0) = false := by simpa using hz
    generalize z.err = er at *
    clear h
    go_enter Tryz.func187, Tryz.ntmps187
    go_wp2
    exact bodyPost_end (v := .tuple #[]) (by kernel_rfl) rfl ⟨rfl, HF.out, Fr.refl _ _⟩

theorem numZ_short {k most : Nat} {e : Int} {l : List UInt8} {z : Zst} (h : l.length < z.at_ + k) : numZ k most e l z = (failZ z 5, 0) := by
  unfold numZ failZ
  by_cases hz : z.err = 0
  · rw [if_neg (fun h => h hz), if_pos h, if_pos hz]
  · rw [if_pos hz, if_neg hz]
theorem numZ_great {k most : Nat} {e : Int} {l : List UInt8} {z : Zst} (h : ¬ l.length < z.at_ + k) (h2 : most < leN (pt l z.at_ k)) : numZ k most e l z = (failZ z e, 0) := by
  unfold numZ failZ
  by_cases hz : z.err = 0
  · rw [if_neg (fun h => h hz), if_neg h, if_pos h2, if_pos hz]
  · rw [if_pos hz, if_neg hz]
theorem numZ_yes {k most : Nat} {e : Int} {l : List UInt8} {z : Zst} (h : ¬ l.length < z.at_ + k) (h2 : ¬ most < leN (pt l z.at_ k)) (hz : z.err = 0) : numZ k most e l z = (⟨z.at_ + k, 0⟩, leN (pt l z.at_ k)) := by
  unfold numZ
  rw [if_neg (fun h => h hz), if_neg h, if_neg h2]
theorem numZ_no {k most : Nat} {e : Int} {l : List UInt8} {z : Zst} (hz : z.err ≠ 0) : numZ k most e l z = (z, 0) := by unfold numZ; rw [if_pos hz]

set_option maxRecDepth 100000 in
set_option maxHeartbeats 2000000 in
theorem number_any (b : Nat) (s : ByteArray) (z : Zst) (k most : Nat) (c : Int) (w : World) (h : RdAt b s z w) (hk : okSize k) (hs : s.size ≤ 9223372036854775000) (hz : z.at_ ≤ s.size) (hc : c ≠ 0) (hm : most < 18446744073709551616) :
    Calls Tryz.prog 193 #[.pointer (some ⟨b, 0, none⟩), .int .i64 k, .int .u64 most, .int .i64 c] w (RdIs b s (numZ k most c s.data.toList z).1 (.int .u64 (numZ k most c s.data.toList z).2) w) := by
  have hk8 : k ≤ 8 := by unfold okSize at hk; omega
  obtain ⟨p, er⟩ := z
  dsimp only at hz
  have hln := data_len s
  have d0 : w.cell? ⟨b, 0, none⟩ = some (.string s) := cell_at h
  have d1 : w.cell? ⟨b, 1, none⟩ = some (.int .i64 p) := cell_at h
  have HA := hid h
  obtain ⟨r, hr⟩ : ∃ r, r = numZ k most c s.data.toList ⟨p, er⟩ := ⟨_, rfl⟩
  rw [← hr]
  have hcI : (0 : Int) ≤ (k : Int) ∧ (k : Int) ≤ 8 := by omega
  obtain ⟨hk0, hk8I⟩ := hcI
  by_cases h1 : s.size < p + k
  · have hr2 := hr.trans (numZ_short (by rw [hln]; exact h1))
    have HR := hid hr2
    have HN := hid (fun y => get_no s p k hk (by omega) (.inr (by omega)) y)
    clear hr hr2 h1 hk h hln
    go_enter Tryz.func193, Tryz.ntmps193
    go_wp2_with fail
    obtain ⟨C, hC⟩ : ∃ C : World → Prop, C = fun w' => Below w.heap.size w w' := ⟨_, rfl⟩
    have kd0 := kin_cell hC d0
    have kd1 := kin_cell hC d1
    have QN := hid (kin_call hC fun y h => HN.out y)
    have HC := hid hC
    clear hC
    refine wp_region_kin C (by kernel_rfl) (by kernel_rfl) (by rw [HC.out]; exact ⟨rfl, rfl, rfl, Nat.le_refl _, fun _ _ => rfl⟩) ?_
    intro hne
    repeat (first | (go_big_quiet_step ((rename_i y; go_at_call 84; exact Calls.kin (QN.out y) (fun w' h => h)))) | (quiet_step ((rename_i y; go_at_call 84; exact Calls.kin (QN.out y) (fun w' h => h)))))
    refine wpQuiet_nil ?_
    intro _ hw'
    obtain ⟨kx, hw''⟩ := hw'
    subst hw''
    obtain ⟨w1, hxc⟩ := kx
    rw [HC.out] at hxc
    clear HC hne kd0 kd1
    have HA1 := hid (HA.out.below hxc)
    have HF := hid (Fr.bel (b := b) hxc)
    clear hxc d0 d1
    go_wp2_with fail
    refine (fail_any b s _ 5 w1 HA1.out).mono ?_
    rintro e w2 ⟨rfl, ha, hf⟩
    have hne : (failZ ⟨p, er⟩ 5).err ≠ 0 := failZ_ne (by decide)
    have d2 : w2.cell? ⟨b, 2, none⟩ = some (.int .i64 (failZ ⟨p, er⟩ 5).err) := cell_at ha
    have HA2 := hid ha
    have HF2 := hid (HF.out.trans' hf)
    clear ha hf HA1 HF HA HN
    generalize failZ ⟨p, er⟩ 5 = z1 at *
    have hne1 : (z1.err != 0) = true := by simpa using hne
    go_wp2_with fail
    go_ret
    exact .mk' (congrArg Prod.fst HR.out) (by rw [HR.out]; rfl) HA2.out HF2.out
  · have hyes := fun y => get_yes s p k hk (by omega) (by omega) y
    have hn := getN_lt (s := s) (p := p) hk8
    obtain ⟨n, hgn⟩ : ∃ n, n = getN s p k := ⟨_, rfl⟩
    rw [← hgn] at hyes hn
    have HN := hid hyes
    have hnp : leN (pt s.data.toList p k) = n := by rw [hgn, getN_pt]
    have hl : ¬ s.data.toList.length < p + k := by rw [hln]; exact h1
    clear hyes hgn
    by_cases h2 : most < n
    · have hr2 := hr.trans (numZ_great hl (by rw [hnp]; exact h2))
      have HR := hid hr2
      have hgt : (most : Int) < (n : Int) := by omega
      clear hr hr2 h1 hk h hln hnp hl
      go_enter Tryz.func193, Tryz.ntmps193
      go_wp2_with fail
      obtain ⟨C, hC⟩ : ∃ C : World → Prop, C = fun w' => Below w.heap.size w w' := ⟨_, rfl⟩
      have kd0 := kin_cell hC d0
      have kd1 := kin_cell hC d1
      have QN := hid (kin_call hC fun y h => HN.out y)
      have HC := hid hC
      clear hC
      refine wp_region_kin C (by kernel_rfl) (by kernel_rfl) (by rw [HC.out]; exact ⟨rfl, rfl, rfl, Nat.le_refl _, fun _ _ => rfl⟩) ?_
      intro hne
      repeat (first | (go_big_quiet_step ((rename_i y; go_at_call 84; exact Calls.kin (QN.out y) (fun w' h => h)))) | (quiet_step ((rename_i y; go_at_call 84; exact Calls.kin (QN.out y) (fun w' h => h)))))
      refine wpQuiet_nil ?_
      intro _ hw'
      obtain ⟨kx, hw''⟩ := hw'
      subst hw''
      obtain ⟨w1, hxc⟩ := kx
      rw [HC.out] at hxc
      clear HC hne kd0 kd1
      have HA1 := hid (HA.out.below hxc)
      have HF := hid (Fr.bel (b := b) hxc)
      clear hxc d0 d1
      go_wp2_with fail
      refine (fail_any b s _ c w1 HA1.out).mono ?_
      rintro e w2 ⟨rfl, ha, hf⟩
      have hne : (failZ ⟨p, er⟩ c).err ≠ 0 := failZ_ne hc
      have d2 : w2.cell? ⟨b, 2, none⟩ = some (.int .i64 (failZ ⟨p, er⟩ c).err) := cell_at ha
      have HA2 := hid ha
      have HF2 := hid (HF.out.trans' hf)
      clear ha hf HA1 HF HA HN
      generalize failZ ⟨p, er⟩ c = z1 at *
      have hne1 : (z1.err != 0) = true := by simpa using hne
      go_wp2_with fail
      go_ret
      exact .mk' (congrArg Prod.fst HR.out) (by rw [HR.out]; rfl) HA2.out HF2.out
    · have hgt : ¬ (most : Int) < (n : Int) := by omega
      by_cases he : er = 0
      · subst he
        have hr2 := hr.trans (numZ_yes hl (by rw [hnp]; exact h2) rfl)
        rw [hnp] at hr2
        have HR := hid hr2
        have hpI : (p : Int) + k ≤ 9223372036854775000 := by omega
        clear hr hr2 h1 hk h hln hnp hl
        go_enter Tryz.func193, Tryz.ntmps193
        go_wp2_with fail
        obtain ⟨C, hC⟩ : ∃ C : World → Prop, C = fun w' => Below w.heap.size w w' := ⟨_, rfl⟩
        have kd0 := kin_cell hC d0
        have kd1 := kin_cell hC d1
        have QN := hid (kin_call hC fun y h => HN.out y)
        have HC := hid hC
        clear hC
        refine wp_region_kin C (by kernel_rfl) (by kernel_rfl) (by rw [HC.out]; exact ⟨rfl, rfl, rfl, Nat.le_refl _, fun _ _ => rfl⟩) ?_
        intro hne
        repeat (first | (go_big_quiet_step ((rename_i y; go_at_call 84; exact Calls.kin (QN.out y) (fun w' h => h)))) | (quiet_step ((rename_i y; go_at_call 84; exact Calls.kin (QN.out y) (fun w' h => h)))))
        refine wpQuiet_nil ?_
        intro _ hw'
        obtain ⟨kx, hw''⟩ := hw'
        subst hw''
        obtain ⟨w1, hxc⟩ := kx
        rw [HC.out] at hxc
        clear HC hne kd0 kd1
        have HA1 := hid (HA.out.below hxc)
        have HF := hid (Fr.bel (b := b) hxc)
        have d1 : w1.cell? ⟨b, 1, none⟩ = some (.int .i64 p) := cell_at HA1.out
        have d2 : w1.cell? ⟨b, 2, none⟩ = some (.int .i64 0) := cell_at HA1.out
        have f1 : w1.frozen? ⟨b, 1, none⟩ = false := free_at HA1.out
        clear hxc d0 HA HN
        have HA2 := hid (HA1.out.setAt (p + k))
        go_wp2_with fail
        go_ret
        exact .mk' (z := ⟨p + k, 0⟩) (congrArg Prod.fst HR.out) (by rw [HR.out]; rfl) HA2.out (HF.out.trans' (Fr.setCell _ _ _ (by simp)))
      · have hr2 := hr.trans (numZ_no he)
        have HR := hid hr2
        have hne1 : (er != 0) = true := by simpa using he
        clear hr hr2 h1 hk h hln hnp hl
        go_enter Tryz.func193, Tryz.ntmps193
        go_wp2_with fail
        obtain ⟨C, hC⟩ : ∃ C : World → Prop, C = fun w' => Below w.heap.size w w' := ⟨_, rfl⟩
        have kd0 := kin_cell hC d0
        have kd1 := kin_cell hC d1
        have QN := hid (kin_call hC fun y h => HN.out y)
        have HC := hid hC
        clear hC
        refine wp_region_kin C (by kernel_rfl) (by kernel_rfl) (by rw [HC.out]; exact ⟨rfl, rfl, rfl, Nat.le_refl _, fun _ _ => rfl⟩) ?_
        intro hne
        repeat (first | (go_big_quiet_step ((rename_i y; go_at_call 84; exact Calls.kin (QN.out y) (fun w' h => h)))) | (quiet_step ((rename_i y; go_at_call 84; exact Calls.kin (QN.out y) (fun w' h => h)))))
        refine wpQuiet_nil ?_
        intro _ hw'
        obtain ⟨kx, hw''⟩ := hw'
        subst hw''
        obtain ⟨w1, hxc⟩ := kx
        rw [HC.out] at hxc
        clear HC hne kd0 kd1
        have HA1 := hid (HA.out.below hxc)
        have HF := hid (Fr.bel (b := b) hxc)
        have d2 : w1.cell? ⟨b, 2, none⟩ = some (.int .i64 er) := cell_at HA1.out
        clear hxc d0 d1 HA HN
        go_wp2_with fail
        go_ret
        exact .mk' (congrArg Prod.fst HR.out) (by rw [HR.out]; rfl) HA1.out HF.out

theorem cntZ_fail {least most : Nat} {e c : Int} {l : List UInt8} {z : Zst} (h : (vgetL l z.at_).2.2 = c) (hc : c ≠ 0) : cntZ least most e l z = (failZ z c, 0) := by
  unfold cntZ failZ
  by_cases hz : z.err = 0
  · rw [if_neg (fun h => h hz), if_pos (by rw [h]; exact hc), if_pos hz, h]
  · rw [if_pos hz, if_neg hz]
theorem cntZ_out {least most : Nat} {e : Int} {l : List UInt8} {z : Zst} (h : (vgetL l z.at_).2.2 = 0) (h2 : (vgetL l z.at_).1 < least ∨ most < (vgetL l z.at_).1) : cntZ least most e l z = (failZ z e, 0) := by
  unfold cntZ failZ
  by_cases hz : z.err = 0
  · rw [if_neg (fun h => h hz), if_neg (fun hh => hh h), if_pos h2, if_pos hz]
  · rw [if_pos hz, if_neg hz]
theorem cntZ_yes {least most : Nat} {e : Int} {l : List UInt8} {z : Zst} (h : (vgetL l z.at_).2.2 = 0) (h2 : ¬ ((vgetL l z.at_).1 < least ∨ most < (vgetL l z.at_).1)) (hz : z.err = 0) : cntZ least most e l z = (⟨(vgetL l z.at_).2.1, 0⟩, (vgetL l z.at_).1) := by
  unfold cntZ
  rw [if_neg (fun h => h hz), if_neg (fun hh => hh h), if_neg h2]
theorem cntZ_no {least most : Nat} {e : Int} {l : List UInt8} {z : Zst} (hz : z.err ≠ 0) : cntZ least most e l z = (z, 0) := by unfold cntZ; rw [if_pos hz]
theorem vgetL_lt (s : ByteArray) (p : Nat) : (vgetL s.data.toList p).1 < 18446744073709551616 := by
  unfold vgetL
  split
  · omega
  · split
    · omega
    · split
      · dsimp only
        unfold vnum
        split
        · unfold byteAt; exact Nat.lt_trans (UInt8.toNat_lt _) (by decide)
        · exact getN_lt (kOf_le _)
      · omega

set_option maxRecDepth 100000 in
set_option maxHeartbeats 2000000 in
theorem count_any (b : Nat) (s : ByteArray) (z : Zst) (least most : Nat) (c : Int) (w : World) (h : RdAt b s z w) (hs : s.size ≤ 9223372036854775000) (hz : z.at_ ≤ s.size) (hc : c ≠ 0) (hm : most ≤ 1000000) (hlm : least ≤ 1000000) :
    Calls Tryz.prog 183 #[.pointer (some ⟨b, 0, none⟩), .int .i64 least, .int .i64 most, .int .i64 c] w (RdIs b s (cntZ least most c s.data.toList z).1 (.int .i64 (cntZ least most c s.data.toList z).2) w) := by
  obtain ⟨p, er⟩ := z
  dsimp only at hz
  have d0 : w.cell? ⟨b, 0, none⟩ = some (.string s) := cell_at h
  have d1 : w.cell? ⟨b, 1, none⟩ = some (.int .i64 p) := cell_at h
  have HA := hid h
  obtain ⟨r, hr⟩ : ∃ r, r = cntZ least most c s.data.toList ⟨p, er⟩ := ⟨_, rfl⟩
  rw [← hr]
  have hm0 : (0 : Int) ≤ (most : Int) := by omega
  have hl0 : (0 : Int) ≤ (least : Int) := by omega
  have hm1 : (most : Int) ≤ 1000000 := by omega
  have hl1 : (least : Int) ≤ 1000000 := by omega
  have HN := hid (fun y => vget_any s p y hs hz)
  unfold VIs at HN
  have hlt := vgetL_lt s p
  have h0 : ∀ c', (vgetL s.data.toList p).2.2 = c' → c' ≠ 0 → r = (failZ ⟨p, er⟩ c', 0) := fun c' h h2 => hr.trans (cntZ_fail h h2)
  have h1 : (vgetL s.data.toList p).2.2 = 0 → ((vgetL s.data.toList p).1 < least ∨ most < (vgetL s.data.toList p).1) → r = (failZ ⟨p, er⟩ c, 0) := fun h h2 => hr.trans (cntZ_out h h2)
  have h2 : (vgetL s.data.toList p).2.2 = 0 → ¬ ((vgetL s.data.toList p).1 < least ∨ most < (vgetL s.data.toList p).1) → er = 0 → r = (⟨(vgetL s.data.toList p).2.1, 0⟩, (vgetL s.data.toList p).1) := fun h h2 h3 => hr.trans (cntZ_yes h h2 h3)
  have h3 : er ≠ 0 → r = (⟨p, er⟩, 0) := fun h => hr.trans (cntZ_no h)
  obtain ⟨n, q, c', hv⟩ : ∃ n q c', vgetL s.data.toList p = (n, q, c') := ⟨_, _, _, rfl⟩
  rw [hv] at h0 h1 h2 HN hlt
  dsimp only at h0 h1 h2 HN hlt
  clear hr hv h
  have HH := hid (And.intro h0 (And.intro h1 (And.intro h2 h3)))
  clear h0 h1 h2 h3
  by_cases hc' : c' = 0
  · subst hc'
    by_cases ho : n < least ∨ most < n
    · have HR := hid (HH.out.2.1 rfl ho)
      clear HH
      by_cases ho1 : n < least
      · have hoI : (n : Int) < (least : Int) := by omega
        clear ho
        go_enter Tryz.func183, Tryz.ntmps183
        go_wp2_with fail
        obtain ⟨C, hC⟩ : ∃ C : World → Prop, C = fun w' => Below w.heap.size w w' := ⟨_, rfl⟩
        have kd0 := kin_cell hC d0
        have kd1 := kin_cell hC d1
        have QN := hid (kin_call hC fun y h => HN.out y)
        have HC := hid hC
        clear hC
        refine wp_region_kin C (by kernel_rfl) (by kernel_rfl) (by rw [HC.out]; exact ⟨rfl, rfl, rfl, Nat.le_refl _, fun _ _ => rfl⟩) ?_
        intro hne
        repeat (first | (go_big_quiet_step ((rename_i y; go_at_call 140; exact Calls.kin (QN.out y) (fun w' h => h)))) | (quiet_step ((rename_i y; go_at_call 140; exact Calls.kin (QN.out y) (fun w' h => h)))))
        refine wpQuiet_nil ?_
        intro _ hw'
        obtain ⟨kx, hw''⟩ := hw'
        subst hw''
        obtain ⟨w1, hxc⟩ := kx
        rw [HC.out] at hxc
        clear HC hne kd0 kd1
        have HA1 := hid (HA.out.below hxc)
        have HF := hid (Fr.bel (b := b) hxc)
        clear hxc d0 d1
        go_wp2_with fail
        refine (fail_any b s _ c w1 HA1.out).mono ?_
        rintro e w2 ⟨rfl, ha, hf⟩
        have hne : (failZ ⟨p, er⟩ c).err ≠ 0 := failZ_ne hc
        have d2 : w2.cell? ⟨b, 2, none⟩ = some (.int .i64 (failZ ⟨p, er⟩ c).err) := cell_at ha
        have HA2 := hid ha
        have HF2 := hid (HF.out.trans' hf)
        clear ha hf HA1 HF HA HN
        generalize failZ ⟨p, er⟩ c = z1 at *
        have hne1 : (z1.err != 0) = true := by simpa using hne
        go_wp2_with fail
        go_ret
        exact .mk' (congrArg Prod.fst HR.out) (by rw [HR.out]; rfl) HA2.out HF2.out
      · have hoI : ¬ (n : Int) < (least : Int) := by omega
        have hoJ : (most : Int) < (n : Int) := by omega
        clear ho
        go_enter Tryz.func183, Tryz.ntmps183
        go_wp2_with fail
        obtain ⟨C, hC⟩ : ∃ C : World → Prop, C = fun w' => Below w.heap.size w w' := ⟨_, rfl⟩
        have kd0 := kin_cell hC d0
        have kd1 := kin_cell hC d1
        have QN := hid (kin_call hC fun y h => HN.out y)
        have HC := hid hC
        clear hC
        refine wp_region_kin C (by kernel_rfl) (by kernel_rfl) (by rw [HC.out]; exact ⟨rfl, rfl, rfl, Nat.le_refl _, fun _ _ => rfl⟩) ?_
        intro hne
        repeat (first | (go_big_quiet_step ((rename_i y; go_at_call 140; exact Calls.kin (QN.out y) (fun w' h => h)))) | (quiet_step ((rename_i y; go_at_call 140; exact Calls.kin (QN.out y) (fun w' h => h)))))
        refine wpQuiet_nil ?_
        intro _ hw'
        obtain ⟨kx, hw''⟩ := hw'
        subst hw''
        obtain ⟨w1, hxc⟩ := kx
        rw [HC.out] at hxc
        clear HC hne kd0 kd1
        have HA1 := hid (HA.out.below hxc)
        have HF := hid (Fr.bel (b := b) hxc)
        clear hxc d0 d1
        go_wp2_with fail
        refine (fail_any b s _ c w1 HA1.out).mono ?_
        rintro e w2 ⟨rfl, ha, hf⟩
        have hne : (failZ ⟨p, er⟩ c).err ≠ 0 := failZ_ne hc
        have d2 : w2.cell? ⟨b, 2, none⟩ = some (.int .i64 (failZ ⟨p, er⟩ c).err) := cell_at ha
        have HA2 := hid ha
        have HF2 := hid (HF.out.trans' hf)
        clear ha hf HA1 HF HA HN
        generalize failZ ⟨p, er⟩ c = z1 at *
        have hne1 : (z1.err != 0) = true := by simpa using hne
        go_wp2_with fail
        go_ret
        exact .mk' (congrArg Prod.fst HR.out) (by rw [HR.out]; rfl) HA2.out HF2.out
    · have hoI : ¬ (n : Int) < (least : Int) := by omega
      have hoJ : ¬ (most : Int) < (n : Int) := by omega
      by_cases he : er = 0
      · subst he
        have HR := hid (HH.out.2.2.1 rfl ho rfl)
        have hn1 : (n : Int) ≤ 1000000 := by omega
        clear HH ho
        go_enter Tryz.func183, Tryz.ntmps183
        go_wp2_with fail
        obtain ⟨C, hC⟩ : ∃ C : World → Prop, C = fun w' => Below w.heap.size w w' := ⟨_, rfl⟩
        have kd0 := kin_cell hC d0
        have kd1 := kin_cell hC d1
        have QN := hid (kin_call hC fun y h => HN.out y)
        have HC := hid hC
        clear hC
        refine wp_region_kin C (by kernel_rfl) (by kernel_rfl) (by rw [HC.out]; exact ⟨rfl, rfl, rfl, Nat.le_refl _, fun _ _ => rfl⟩) ?_
        intro hne
        repeat (first | (go_big_quiet_step ((rename_i y; go_at_call 140; exact Calls.kin (QN.out y) (fun w' h => h)))) | (quiet_step ((rename_i y; go_at_call 140; exact Calls.kin (QN.out y) (fun w' h => h)))))
        refine wpQuiet_nil ?_
        intro _ hw'
        obtain ⟨kx, hw''⟩ := hw'
        subst hw''
        obtain ⟨w1, hxc⟩ := kx
        rw [HC.out] at hxc
        clear HC hne kd0 kd1
        have HA1 := hid (HA.out.below hxc)
        have HF := hid (Fr.bel (b := b) hxc)
        have d1 : w1.cell? ⟨b, 1, none⟩ = some (.int .i64 p) := cell_at HA1.out
        have d2 : w1.cell? ⟨b, 2, none⟩ = some (.int .i64 0) := cell_at HA1.out
        have f1 : w1.frozen? ⟨b, 1, none⟩ = false := free_at HA1.out
        clear hxc d0 HA HN
        have HA2 := hid (HA1.out.setAt q)
        go_wp2_with fail
        go_ret
        exact .mk' (z := ⟨q, 0⟩) (congrArg Prod.fst HR.out) (by rw [HR.out]; rfl) HA2.out (HF.out.trans' (Fr.setCell _ _ _ (by simp)))
      · have HR := hid (HH.out.2.2.2 he)
        have hne1 : (er != 0) = true := by simpa using he
        clear HH ho
        go_enter Tryz.func183, Tryz.ntmps183
        go_wp2_with fail
        obtain ⟨C, hC⟩ : ∃ C : World → Prop, C = fun w' => Below w.heap.size w w' := ⟨_, rfl⟩
        have kd0 := kin_cell hC d0
        have kd1 := kin_cell hC d1
        have QN := hid (kin_call hC fun y h => HN.out y)
        have HC := hid hC
        clear hC
        refine wp_region_kin C (by kernel_rfl) (by kernel_rfl) (by rw [HC.out]; exact ⟨rfl, rfl, rfl, Nat.le_refl _, fun _ _ => rfl⟩) ?_
        intro hne
        repeat (first | (go_big_quiet_step ((rename_i y; go_at_call 140; exact Calls.kin (QN.out y) (fun w' h => h)))) | (quiet_step ((rename_i y; go_at_call 140; exact Calls.kin (QN.out y) (fun w' h => h)))))
        refine wpQuiet_nil ?_
        intro _ hw'
        obtain ⟨kx, hw''⟩ := hw'
        subst hw''
        obtain ⟨w1, hxc⟩ := kx
        rw [HC.out] at hxc
        clear HC hne kd0 kd1
        have HA1 := hid (HA.out.below hxc)
        have HF := hid (Fr.bel (b := b) hxc)
        have d2 : w1.cell? ⟨b, 2, none⟩ = some (.int .i64 er) := cell_at HA1.out
        clear hxc d0 d1 HA HN
        go_wp2_with fail
        go_ret
        exact .mk' (congrArg Prod.fst HR.out) (by rw [HR.out]; rfl) HA1.out HF.out
  · have HR := hid (HH.out.1 c' rfl hc')
    have hcc := hc'
    have hcn : (c' != 0) = true := by simpa using hc'
    clear HH
    go_enter Tryz.func183, Tryz.ntmps183
    go_wp2_with fail
    obtain ⟨C, hC⟩ : ∃ C : World → Prop, C = fun w' => Below w.heap.size w w' := ⟨_, rfl⟩
    have kd0 := kin_cell hC d0
    have kd1 := kin_cell hC d1
    have QN := hid (kin_call hC fun y h => HN.out y)
    have HC := hid hC
    clear hC
    refine wp_region_kin C (by kernel_rfl) (by kernel_rfl) (by rw [HC.out]; exact ⟨rfl, rfl, rfl, Nat.le_refl _, fun _ _ => rfl⟩) ?_
    intro hne
    repeat (first | (go_big_quiet_step ((rename_i y; go_at_call 140; exact Calls.kin (QN.out y) (fun w' h => h)))) | (quiet_step ((rename_i y; go_at_call 140; exact Calls.kin (QN.out y) (fun w' h => h)))))
    refine wpQuiet_nil ?_
    intro _ hw'
    obtain ⟨kx, hw''⟩ := hw'
    subst hw''
    obtain ⟨w1, hxc⟩ := kx
    rw [HC.out] at hxc
    clear HC hne kd0 kd1
    have HA1 := hid (HA.out.below hxc)
    have HF := hid (Fr.bel (b := b) hxc)
    clear hxc d0 d1
    go_wp2_with fail
    refine (fail_any b s _ c' w1 HA1.out).mono ?_
    rintro e w2 ⟨rfl, ha, hf⟩
    have hne : (failZ ⟨p, er⟩ c').err ≠ 0 := failZ_ne hc'
    have d2 : w2.cell? ⟨b, 2, none⟩ = some (.int .i64 (failZ ⟨p, er⟩ c').err) := cell_at ha
    have HA2 := hid ha
    have HF2 := hid (HF.out.trans' hf)
    clear ha hf HA1 HF HA HN
    generalize failZ ⟨p, er⟩ c' = z1 at *
    have hne1 : (z1.err != 0) = true := by simpa using hne
    go_wp2_with fail
    go_ret
    exact .mk' (congrArg Prod.fst HR.out) (by rw [HR.out]; rfl) HA2.out HF2.out

theorem textZ_short {n : Nat} {l : List UInt8} {z : Zst} (h : l.length < z.at_ + n) : textZ n l z = (failZ z 5, bL []) := by
  unfold textZ failZ
  by_cases hz : z.err = 0
  · rw [if_neg (fun h => h hz), if_pos h, if_pos hz]
  · rw [if_pos hz, if_neg hz]
theorem textZ_yes {n : Nat} {l : List UInt8} {z : Zst} (h : ¬ l.length < z.at_ + n) (hz : z.err = 0) : textZ n l z = (⟨z.at_ + n, 0⟩, bL (pt l z.at_ n)) := by
  unfold textZ
  rw [if_neg (fun h => h hz), if_neg h]
theorem textZ_no {n : Nat} {l : List UInt8} {z : Zst} (hz : z.err ≠ 0) : textZ n l z = (z, bL []) := by unfold textZ; rw [if_pos hz]
theorem extract_pt (s : ByteArray) (p n : Nat) : s.extract p (p + n) = bL (pt s.data.toList p n) := by
  apply ByteArray.ext
  unfold bL pt
  apply Array.ext'
  simp [List.extract_eq_take_drop]
set_option maxRecDepth 100000 in
set_option maxHeartbeats 2000000 in
theorem bytes_any (b : Nat) (s : ByteArray) (z : Zst) (n : Nat) (w : World) (h : RdAt b s z w) (hs : s.size ≤ 9223372036854775000) (hz : z.at_ ≤ s.size) (hn : n ≤ 1000000) :
    Calls Tryz.prog 194 #[.pointer (some ⟨b, 0, none⟩), .int .i64 n] w (RdIs b s (textZ n s.data.toList z).1 (.string (textZ n s.data.toList z).2) w) := by
  obtain ⟨p, er⟩ := z
  dsimp only at hz
  have hln := data_len s
  have d0 : w.cell? ⟨b, 0, none⟩ = some (.string s) := cell_at h
  have d1 : w.cell? ⟨b, 1, none⟩ = some (.int .i64 p) := cell_at h
  have d2 : w.cell? ⟨b, 2, none⟩ = some (.int .i64 er) := cell_at h
  have f1 : w.frozen? ⟨b, 1, none⟩ = false := free_at h
  have HA := hid h
  obtain ⟨r, hr⟩ : ∃ r, r = textZ n s.data.toList ⟨p, er⟩ := ⟨_, rfl⟩
  rw [← hr]
  have hn0 : (0 : Int) ≤ (n : Int) := by omega
  have hn1 : (n : Int) ≤ 1000000 := by omega
  have hp0 : (0 : Int) ≤ (p : Int) := by omega
  have hp1 : (p : Int) ≤ (s.size : Int) := by omega
  by_cases h1 : s.size < p + n
  · have HR := hid (hr.trans (textZ_short (by rw [hln]; exact h1)))
    have h1I : (s.size : Int) - p < n := by omega
    clear hr h1 h hln
    go_enter Tryz.func194, Tryz.ntmps194
    go_wp2_with fail
    obtain ⟨C, hC⟩ : ∃ C : World → Prop, C = fun w' => Below w.heap.size w w' := ⟨_, rfl⟩
    have kd0 := kin_cell hC d0
    have kd1 := kin_cell hC d1
    have HC := hid hC
    clear hC
    refine wp_region_kin C (by kernel_rfl) (by kernel_rfl) (by rw [HC.out]; exact ⟨rfl, rfl, rfl, Nat.le_refl _, fun _ _ => rfl⟩) ?_
    intro hne
    repeat (first | (go_big_quiet_step (fail)) | (quiet_step (fail)))
    refine wpQuiet_nil ?_
    intro _ hw'
    obtain ⟨kx, hw''⟩ := hw'
    subst hw''
    obtain ⟨w1, hxc⟩ := kx
    rw [HC.out] at hxc
    clear HC hne kd0 kd1
    have HA1 := hid (HA.out.below hxc)
    have HF := hid (Fr.bel (b := b) hxc)
    clear hxc d0 d1 f1 d2
    go_wp2_with fail
    refine (fail_any b s _ 5 _ HA1.out).mono ?_
    rintro e w2 ⟨rfl, ha, hf⟩
    have hne : (failZ ⟨p, er⟩ 5).err ≠ 0 := failZ_ne (by decide)
    have d2 : w2.cell? ⟨b, 2, none⟩ = some (.int .i64 (failZ ⟨p, er⟩ 5).err) := cell_at ha
    have HA2 := hid ha
    have HF2 := hid (HF.out.trans' hf)
    clear ha hf HA HA1 HF
    generalize failZ ⟨p, er⟩ 5 = z1 at *
    have hne1 : (z1.err != 0) = true := by simpa using hne
    go_wp2_with fail
    go_ret
    exact .mk' (congrArg Prod.fst HR.out) (by rw [HR.out]; rfl) HA2.out HF2.out
  · have h1I : ¬ (s.size : Int) - p < n := by omega
    by_cases he : er = 0
    · subst he
      have HR := hid (hr.trans (textZ_yes (by rw [hln]; exact h1) rfl))
      have h2I : (p : Int) + n ≤ s.size := by omega
      have hsI : (s.size : Int) ≤ 9223372036854775000 := by omega
      have hsb : (p : Int) + n - n = p := by omega
      have HE := hid (extract_pt s p n)
      clear hr h1 h hln f1 d2
      go_enter Tryz.func194, Tryz.ntmps194
      go_wp2_with fail
      obtain ⟨C, hC⟩ : ∃ C : World → Prop, C = fun w' => Below w.heap.size w w' := ⟨_, rfl⟩
      have kd0 := kin_cell hC d0
      have kd1 := kin_cell hC d1
      have HC := hid hC
      clear hC
      refine wp_region_kin C (by kernel_rfl) (by kernel_rfl) (by rw [HC.out]; exact ⟨rfl, rfl, rfl, Nat.le_refl _, fun _ _ => rfl⟩) ?_
      intro hne
      repeat (first | (go_big_quiet_step (fail)) | (quiet_step (fail)))
      refine wpQuiet_nil ?_
      intro _ hw'
      obtain ⟨kx, hw''⟩ := hw'
      subst hw''
      obtain ⟨w1, hxc⟩ := kx
      rw [HC.out] at hxc
      clear HC hne kd0 kd1
      have HA1 := hid (HA.out.below hxc)
      have HF := hid (Fr.bel (b := b) hxc)
      clear hxc d0 d1 HA
      have d1 : w1.cell? ⟨b, 1, none⟩ = some (.int .i64 p) := cell_at HA1.out
      have d2 : w1.cell? ⟨b, 2, none⟩ = some (.int .i64 0) := cell_at HA1.out
      have f1 : w1.frozen? ⟨b, 1, none⟩ = false := free_at HA1.out
      have HA2 := hid (HA1.out.setAt (p + n))
      have HF2 := hid (HF.out.trans' (Fr.setCell w1 ⟨b, 1, none⟩ (.int .i64 ((p + n : Nat) : Int)) (by simp)))
      go_upto_region 6 with fail
      rw [show ((p + n : Nat) : Int) = (p : Int) + n from rfl] at HA2 HF2
      generalize w1.setCell ⟨b, 1, none⟩ (.int .i64 ((p : Int) + n)) = w2 at *
      clear d1 d2 f1 HA1 HF
      have d0 : w2.cell? ⟨b, 0, none⟩ = some (.string s) := cell_at HA2.out
      have d1 : w2.cell? ⟨b, 1, none⟩ = some (.int .i64 ((p : Int) + n)) := cell_at HA2.out
      obtain ⟨C, hC⟩ : ∃ C : World → Prop, C = fun w' => Below w2.heap.size w2 w' := ⟨_, rfl⟩
      have kd0 := kin_cell hC d0
      have kd1 := kin_cell hC d1
      have HC := hid hC
      clear hC
      refine wp_region_kin C (by kernel_rfl) (by kernel_rfl) (by rw [HC.out]; exact ⟨rfl, rfl, rfl, Nat.le_refl _, fun _ _ => rfl⟩) ?_
      intro hne
      repeat (first | (go_big_quiet_step (fail)) | (quiet_step (fail)))
      refine wpQuiet_nil ?_
      intro _ hw'
      obtain ⟨kx, hw''⟩ := hw'
      subst hw''
      obtain ⟨w3, hxc⟩ := kx
      rw [HC.out] at hxc
      clear HC hne kd0 kd1
      have HA3 := hid (HA2.out.below hxc)
      have HF3 := hid (HF2.out.trans' (Fr.bel (b := b) hxc))
      clear hxc d0 d1 HA2 HF2
      go_wp2_with fail
      go_ret
      exact .mk' (z := ⟨p + n, 0⟩) (congrArg Prod.fst HR.out) (by rw [HR.out, ← HE.out]; rfl) HA3.out HF3.out
    · have HR := hid (hr.trans (textZ_no he))
      have hne1 : (er != 0) = true := by simpa using he
      clear hr h1 h hln f1
      go_enter Tryz.func194, Tryz.ntmps194
      go_wp2_with fail
      obtain ⟨C, hC⟩ : ∃ C : World → Prop, C = fun w' => Below w.heap.size w w' := ⟨_, rfl⟩
      have kd0 := kin_cell hC d0
      have kd1 := kin_cell hC d1
      have kd2 := kin_cell hC d2
      have HC := hid hC
      clear hC
      refine wp_region_kin C (by kernel_rfl) (by kernel_rfl) (by rw [HC.out]; exact ⟨rfl, rfl, rfl, Nat.le_refl _, fun _ _ => rfl⟩) ?_
      intro hne
      repeat (first | (go_big_quiet_step (fail)) | (quiet_step (fail)))
      refine wpQuiet_nil ?_
      intro _ hw'
      obtain ⟨kx, hw''⟩ := hw'
      subst hw''
      obtain ⟨w1, hxc⟩ := kx
      rw [HC.out] at hxc
      clear HC hne kd0 kd1 kd2
      have HA1 := hid (HA.out.below hxc)
      have HF := hid (Fr.bel (b := b) hxc)
      have d2 : w1.cell? ⟨b, 2, none⟩ = some (.int .i64 er) := cell_at HA1.out
      clear hxc d0 d1
      go_wp2_with fail
      go_ret
      exact .mk' (congrArg Prod.fst HR.out) (by rw [HR.out]; rfl) HA1.out HF.out

theorem numZ_four (l : List UInt8) (z : Zst) : numZ 4 4294967296 3 l z = numZ 4 4294967295 3 l z := by
  unfold numZ
  have h := leN_lt (pt l z.at_ 4)
  by_cases hz : z.err ≠ 0
  · rw [if_pos hz, if_pos hz]
  · rw [if_neg hz, if_neg hz]
    by_cases h1 : l.length < z.at_ + 4
    · rw [if_pos h1, if_pos h1]
    · rw [if_neg h1, if_neg h1]
      rw [pt_len (by omega)] at h
      rw [if_neg (by omega), if_neg (by omega)]
theorem numZ_le (k most : Nat) (e : Int) (l : List UInt8) (z : Zst) : (numZ k most e l z).2 ≤ most := by
  unfold numZ
  split
  · exact Nat.zero_le _
  · split
    · exact Nat.zero_le _
    · split
      · exact Nat.zero_le _
      · dsimp only; omega
set_option maxHeartbeats 1000000 in
theorem four_any (b : Nat) (s : ByteArray) (z : Zst) (w : World) (h : RdAt b s z w) (hs : s.size ≤ 9223372036854775000) (hz : z.at_ ≤ s.size) :
    Calls Tryz.prog 181 #[.pointer (some ⟨b, 0, none⟩)] w (RdIs b s (numZ 4 4294967295 3 s.data.toList z).1 (.int .u32 (numZ 4 4294967295 3 s.data.toList z).2) w) := by
  have HN := number_any b s z 4 4294967296 3 w h (.inr (.inr (.inl rfl))) hs hz (by decide) (by decide)
  rw [numZ_four] at HN
  have HN := hid HN
  have hle := numZ_le 4 4294967295 3 s.data.toList z
  obtain ⟨r, hr⟩ : ∃ r, r = numZ 4 4294967295 3 s.data.toList z := ⟨_, rfl⟩
  rw [← hr] at HN hle ⊢
  obtain ⟨z1, n⟩ := r
  dsimp only at hle HN ⊢
  have hl2 : (n : Int) < 4294967296 := by omega
  clear h hr
  go_enter Tryz.func181, Tryz.ntmps181
  go_wp2_with fail
  refine HN.out.mono ?_
  rintro e w1 ⟨rfl, ha, hf⟩
  have HA := hid ha
  have HF := hid hf
  clear ha hf
  go_wp2_with fail
  go_ret
  exact ⟨rfl, HA.out, HF.out⟩

set_option maxRecDepth 100000 in
set_option maxHeartbeats 2000000 in
theorem marker_any (b : Nat) (s : ByteArray) (z : Zst) (w : World) (h : RdAt b s z w) (hs : s.size ≤ 9223372036854775000) (hz : z.at_ ≤ s.size) :
    Calls Tryz.prog 182 #[.pointer (some ⟨b, 0, none⟩)] w (RdIs b s (markZ s.data.toList z).1 (.bool (markZ s.data.toList z).2) w) := by
  obtain ⟨p, er⟩ := z
  dsimp only at hz
  have hln := data_len s
  have d0 : w.cell? ⟨b, 0, none⟩ = some (.string s) := cell_at h
  have d1 : w.cell? ⟨b, 1, none⟩ = some (.int .i64 p) := cell_at h
  have d2 : w.cell? ⟨b, 2, none⟩ = some (.int .i64 er) := cell_at h
  have HA := hid h
  obtain ⟨r, hr⟩ : ∃ r, r = markZ s.data.toList ⟨p, er⟩ := ⟨_, rfl⟩
  rw [← hr]
  have hp0 : (0 : Int) ≤ (p : Int) := by omega
  have hp1 : (p : Int) ≤ (s.size : Int) := by omega
  by_cases he : er = 0
  · subst he
    by_cases hpl : s.size ≤ p
    · have HR := hid (hr.trans (mark_none _ _ (by rw [hln]; exact hpl)))
      have hpI : (s.size : Int) ≤ p := by omega
      clear hr h hln
      go_enter Tryz.func182, Tryz.ntmps182
      go_wp2_with fail
      obtain ⟨C, hC⟩ : ∃ C : World → Prop, C = fun w' => Below w.heap.size w w' := ⟨_, rfl⟩
      have kd0 := kin_cell hC d0
      have kd1 := kin_cell hC d1
      have kd2 := kin_cell hC d2
      have HC := hid hC
      clear hC
      refine wp_region_kin C (by kernel_rfl) (by kernel_rfl) (by rw [HC.out]; exact ⟨rfl, rfl, rfl, Nat.le_refl _, fun _ _ => rfl⟩) ?_
      intro hne
      repeat (first | (go_big_quiet_step (fail)) | (quiet_step (fail)))
      refine wpQuiet_nil ?_
      intro _ hw'
      obtain ⟨kx, hw''⟩ := hw'
      subst hw''
      obtain ⟨w1, hxc⟩ := kx
      rw [HC.out] at hxc
      clear HC hne kd0 kd1 kd2
      have HA1 := hid (HA.out.below hxc)
      have HF := hid (Fr.bel (b := b) hxc)
      clear hxc d0 d1 d2
      go_wp2_with fail
      go_ret
      exact .mk' (congrArg Prod.fst HR.out) (by rw [HR.out]; rfl) HA1.out HF.out
    · have hlt : p < s.size := by omega
      have hltI : (p : Int) < (s.size : Int) := by omega
      have HBA := hid (byteAt_get hlt)
      obtain ⟨c, hb⟩ : ∃ b, (s[p]'hlt).toNat = b := ⟨_, rfl⟩
      have hc8 : c < 256 := by rw [← hb]; exact UInt8.toNat_lt _
      have HBC := hid (show byteAt s.data.toList p = c from HBA.out.trans hb)
      by_cases hc : c = 0
      · subst hc
        have hmz : markZ s.data.toList ⟨p, 0⟩ = if p + 1 < s.size ∧ byteAt s.data.toList (p + 1) ≠ 1 then (⟨p + 1, 4⟩, true) else ((numZ 1 1 4 s.data.toList ⟨p + 1, 0⟩).1, true) := by
          unfold markZ
          dsimp only
          rw [hln, HBC.out, if_neg (by simp; omega)]
        have hp2 : (p : Int) + 1 ≤ 9223372036854775000 := by omega
        have hp20 : (0 : Int) ≤ (p : Int) + 1 := by omega
        have HMZ := hid (hr.trans hmz)
        clear hr h hln hmz HBC HBA
        by_cases hq : p + 1 < s.size
        · have hqI : (p : Int) + 1 < (s.size : Int) := by omega
          have hqN : ((p : Int) + 1).toNat = p + 1 := by omega
          have HBA := hid (byteAt_get hq)
          obtain ⟨c, hb2⟩ : ∃ b, (s[p + 1]'hq).toNat = b := ⟨_, rfl⟩
          have HBC := hid (show byteAt s.data.toList (p + 1) = c from HBA.out.trans hb2)
          clear HBA
          by_cases hc : c = 1
          · have HR := hid (HMZ.out.trans (if_neg (by rw [HBC.out, hc]; simp)))
            have hc1 : ((c : Int) != 1) = false := by rw [bne_eq_false_iff_eq]; omega
            clear HMZ HBC hc
            go_enter Tryz.func182, Tryz.ntmps182
            go_wp2_with fail
            obtain ⟨C, hC⟩ : ∃ C : World → Prop, C = fun w' => Below w.heap.size w w' := ⟨_, rfl⟩
            have kd0 := kin_cell hC d0
            have kd1 := kin_cell hC d1
            have kd2 := kin_cell hC d2
            have HC := hid hC
            clear hC
            refine wp_region_kin C (by kernel_rfl) (by kernel_rfl) (by rw [HC.out]; exact ⟨rfl, rfl, rfl, Nat.le_refl _, fun _ _ => rfl⟩) ?_
            intro hne
            repeat (first | (go_big_quiet_step (fail)) | (quiet_step (fail)))
            refine wpQuiet_nil ?_
            intro _ hw'
            obtain ⟨kx, hw''⟩ := hw'
            subst hw''
            obtain ⟨w1, hxc⟩ := kx
            rw [HC.out] at hxc
            clear HC hne kd0 kd1 kd2
            have HA1 := hid (HA.out.below hxc)
            have HF := hid (Fr.bel (b := b) hxc)
            clear hxc d0 d1 d2 HA
            have d1 : w1.cell? ⟨b, 1, none⟩ = some (.int .i64 p) := cell_at HA1.out
            have f1 : w1.frozen? ⟨b, 1, none⟩ = false := free_at HA1.out
            have HA2 := hid (HA1.out.setAt (p + 1))
            have HF2 := hid (HF.out.trans' (Fr.setCell w1 ⟨b, 1, none⟩ (.int .i64 ((p + 1 : Nat) : Int)) (by simp)))
            go_wp2_with fail
            rw [show ((p + 1 : Nat) : Int) = (p : Int) + 1 from rfl] at HA2 HF2
            generalize w1.setCell ⟨b, 1, none⟩ (.int .i64 ((p : Int) + 1)) = w2 at *
            clear d1 f1 HA1 HF
            have d0 : w2.cell? ⟨b, 0, none⟩ = some (.string s) := cell_at HA2.out
            have d1 : w2.cell? ⟨b, 1, none⟩ = some (.int .i64 ((p : Int) + 1)) := cell_at HA2.out
            obtain ⟨C, hC⟩ : ∃ C : World → Prop, C = fun w' => Below w2.heap.size w2 w' := ⟨_, rfl⟩
            have kd0 := kin_cell hC d0
            have kd1 := kin_cell hC d1
            have HC := hid hC
            clear hC
            refine wp_region_kin C (by kernel_rfl) (by kernel_rfl) (by rw [HC.out]; exact ⟨rfl, rfl, rfl, Nat.le_refl _, fun _ _ => rfl⟩) ?_
            intro hne
            repeat (first | (go_big_quiet_step (fail)) | (quiet_step (fail)))
            refine wpQuiet_nil ?_
            intro _ hw'
            obtain ⟨kx, hw''⟩ := hw'
            subst hw''
            obtain ⟨w3, hxc⟩ := kx
            rw [HC.out] at hxc
            clear HC hne kd0 kd1
            have HA3 := hid (HA2.out.below hxc)
            have HF3 := hid (HF2.out.trans' (Fr.bel (b := b) hxc))
            clear hxc d0 d1 HA2 HF2
            go_wp2_with fail
            refine (number_any b s ⟨p + 1, 0⟩ 1 1 4 w3 HA3.out (.inl rfl) hs hlt (by decide) (by decide)).mono ?_
            rintro e w4 ⟨rfl, ha, hf⟩
            have HA4 := hid ha
            have HF4 := hid (HF3.out.trans' hf)
            clear ha hf HA3 HF3
            go_wp2_with fail
            go_ret
            exact .mk' (congrArg Prod.fst HR.out) (by rw [HR.out]; rfl) HA4.out HF4.out
          · have HR := hid (HMZ.out.trans (if_pos ⟨hq, by rw [HBC.out]; exact hc⟩))
            have hc1 : ((c : Int) != 1) = true := by rw [bne_iff_ne]; omega
            clear HMZ HBC hc
            go_enter Tryz.func182, Tryz.ntmps182
            go_wp2_with fail
            obtain ⟨C, hC⟩ : ∃ C : World → Prop, C = fun w' => Below w.heap.size w w' := ⟨_, rfl⟩
            have kd0 := kin_cell hC d0
            have kd1 := kin_cell hC d1
            have kd2 := kin_cell hC d2
            have HC := hid hC
            clear hC
            refine wp_region_kin C (by kernel_rfl) (by kernel_rfl) (by rw [HC.out]; exact ⟨rfl, rfl, rfl, Nat.le_refl _, fun _ _ => rfl⟩) ?_
            intro hne
            repeat (first | (go_big_quiet_step (fail)) | (quiet_step (fail)))
            refine wpQuiet_nil ?_
            intro _ hw'
            obtain ⟨kx, hw''⟩ := hw'
            subst hw''
            obtain ⟨w1, hxc⟩ := kx
            rw [HC.out] at hxc
            clear HC hne kd0 kd1 kd2
            have HA1 := hid (HA.out.below hxc)
            have HF := hid (Fr.bel (b := b) hxc)
            clear hxc d0 d1 d2 HA
            have d1 : w1.cell? ⟨b, 1, none⟩ = some (.int .i64 p) := cell_at HA1.out
            have f1 : w1.frozen? ⟨b, 1, none⟩ = false := free_at HA1.out
            have HA2 := hid (HA1.out.setAt (p + 1))
            have HF2 := hid (HF.out.trans' (Fr.setCell w1 ⟨b, 1, none⟩ (.int .i64 ((p + 1 : Nat) : Int)) (by simp)))
            go_wp2_with fail
            rw [show ((p + 1 : Nat) : Int) = (p : Int) + 1 from rfl] at HA2 HF2
            generalize w1.setCell ⟨b, 1, none⟩ (.int .i64 ((p : Int) + 1)) = w2 at *
            clear d1 f1 HA1 HF
            have d0 : w2.cell? ⟨b, 0, none⟩ = some (.string s) := cell_at HA2.out
            have d1 : w2.cell? ⟨b, 1, none⟩ = some (.int .i64 ((p : Int) + 1)) := cell_at HA2.out
            obtain ⟨C, hC⟩ : ∃ C : World → Prop, C = fun w' => Below w2.heap.size w2 w' := ⟨_, rfl⟩
            have kd0 := kin_cell hC d0
            have kd1 := kin_cell hC d1
            have HC := hid hC
            clear hC
            refine wp_region_kin C (by kernel_rfl) (by kernel_rfl) (by rw [HC.out]; exact ⟨rfl, rfl, rfl, Nat.le_refl _, fun _ _ => rfl⟩) ?_
            intro hne
            repeat (first | (go_big_quiet_step (fail)) | (quiet_step (fail)))
            refine wpQuiet_nil ?_
            intro _ hw'
            obtain ⟨kx, hw''⟩ := hw'
            subst hw''
            obtain ⟨w3, hxc⟩ := kx
            rw [HC.out] at hxc
            clear HC hne kd0 kd1
            have HA3 := hid (HA2.out.below hxc)
            have HF3 := hid (HF2.out.trans' (Fr.bel (b := b) hxc))
            clear hxc d0 d1 HA2 HF2
            go_wp2_with fail
            refine (fail_any b s _ 4 _ HA3.out).mono ?_
            rintro e w4 ⟨rfl, ha, hf⟩
            have HA4 := hid (show RdAt b s ⟨p + 1, 4⟩ w4 from ha)
            have HF4 := hid (HF3.out.trans' hf)
            clear ha hf HA3 HF3
            go_wp2_with fail
            have HN := number_any b s ⟨p + 1, 4⟩ 1 1 4 w4 HA4.out (.inl rfl) hs hlt (by decide) (by decide)
            rw [numZ_no (show ¬ (4 : Int) = 0 by decide)] at HN
            have HN := hid HN
            refine HN.out.mono ?_
            rintro e w5 ⟨rfl, ha, hf⟩
            have HA5 := hid ha
            have HF5 := hid (HF4.out.trans' hf)
            clear ha hf HA4 HF4 HN
            go_wp2_with fail
            go_ret
            exact .mk' (congrArg Prod.fst HR.out) (by rw [HR.out]; rfl) HA5.out HF5.out
        · have hqI : ¬ (p : Int) + 1 < (s.size : Int) := by omega
          have hqD : decide ((p : Int) + 1 < (s.size : Int)) = false := by simpa using hqI
          have HR := hid (HMZ.out.trans (if_neg (fun h => hq h.1)))
          clear HMZ
          go_enter Tryz.func182, Tryz.ntmps182
          go_wp2_with fail
          obtain ⟨C, hC⟩ : ∃ C : World → Prop, C = fun w' => Below w.heap.size w w' := ⟨_, rfl⟩
          have kd0 := kin_cell hC d0
          have kd1 := kin_cell hC d1
          have kd2 := kin_cell hC d2
          have HC := hid hC
          clear hC
          refine wp_region_kin C (by kernel_rfl) (by kernel_rfl) (by rw [HC.out]; exact ⟨rfl, rfl, rfl, Nat.le_refl _, fun _ _ => rfl⟩) ?_
          intro hne
          repeat (first | (go_big_quiet_step (fail)) | (quiet_step (fail)))
          refine wpQuiet_nil ?_
          intro _ hw'
          obtain ⟨kx, hw''⟩ := hw'
          subst hw''
          obtain ⟨w1, hxc⟩ := kx
          rw [HC.out] at hxc
          clear HC hne kd0 kd1 kd2
          have HA1 := hid (HA.out.below hxc)
          have HF := hid (Fr.bel (b := b) hxc)
          clear hxc d0 d1 d2 HA
          have d1 : w1.cell? ⟨b, 1, none⟩ = some (.int .i64 p) := cell_at HA1.out
          have f1 : w1.frozen? ⟨b, 1, none⟩ = false := free_at HA1.out
          have HA2 := hid (HA1.out.setAt (p + 1))
          have HF2 := hid (HF.out.trans' (Fr.setCell w1 ⟨b, 1, none⟩ (.int .i64 ((p + 1 : Nat) : Int)) (by simp)))
          go_wp2_with fail
          rw [show ((p + 1 : Nat) : Int) = (p : Int) + 1 from rfl] at HA2 HF2
          generalize w1.setCell ⟨b, 1, none⟩ (.int .i64 ((p : Int) + 1)) = w2 at *
          clear d1 f1 HA1 HF
          have d0 : w2.cell? ⟨b, 0, none⟩ = some (.string s) := cell_at HA2.out
          have d1 : w2.cell? ⟨b, 1, none⟩ = some (.int .i64 ((p : Int) + 1)) := cell_at HA2.out
          obtain ⟨C, hC⟩ : ∃ C : World → Prop, C = fun w' => Below w2.heap.size w2 w' := ⟨_, rfl⟩
          have kd0 := kin_cell hC d0
          have kd1 := kin_cell hC d1
          have HC := hid hC
          clear hC
          refine wp_region_kin C (by kernel_rfl) (by kernel_rfl) (by rw [HC.out]; exact ⟨rfl, rfl, rfl, Nat.le_refl _, fun _ _ => rfl⟩) ?_
          intro hne
          repeat (first | (go_big_quiet_step (fail)) | (quiet_step (fail)))
          refine wpQuiet_nil ?_
          intro _ hw'
          obtain ⟨kx, hw''⟩ := hw'
          subst hw''
          obtain ⟨w3, hxc⟩ := kx
          rw [HC.out] at hxc
          clear HC hne kd0 kd1
          have HA3 := hid (HA2.out.below hxc)
          have HF3 := hid (HF2.out.trans' (Fr.bel (b := b) hxc))
          clear hxc d0 d1 HA2 HF2
          go_wp2_with fail
          refine (number_any b s ⟨p + 1, 0⟩ 1 1 4 w3 HA3.out (.inl rfl) hs hlt (by decide) (by decide)).mono ?_
          rintro e w4 ⟨rfl, ha, hf⟩
          have HA4 := hid ha
          have HF4 := hid (HF3.out.trans' hf)
          clear ha hf HA3 HF3
          go_wp2_with fail
          go_ret
          exact .mk' (congrArg Prod.fst HR.out) (by rw [HR.out]; rfl) HA4.out HF4.out
      · have HR := hid (hr.trans (mark_no _ _ (by dsimp only; rw [HBC.out]; exact hc)))
        have hc1 : ((c : Int) != 0) = true := by rw [bne_iff_ne]; omega
        clear hr h hln
        go_enter Tryz.func182, Tryz.ntmps182
        go_wp2_with fail
        obtain ⟨C, hC⟩ : ∃ C : World → Prop, C = fun w' => Below w.heap.size w w' := ⟨_, rfl⟩
        have kd0 := kin_cell hC d0
        have kd1 := kin_cell hC d1
        have kd2 := kin_cell hC d2
        have HC := hid hC
        clear hC
        refine wp_region_kin C (by kernel_rfl) (by kernel_rfl) (by rw [HC.out]; exact ⟨rfl, rfl, rfl, Nat.le_refl _, fun _ _ => rfl⟩) ?_
        intro hne
        repeat (first | (go_big_quiet_step (fail)) | (quiet_step (fail)))
        refine wpQuiet_nil ?_
        intro _ hw'
        obtain ⟨kx, hw''⟩ := hw'
        subst hw''
        obtain ⟨w1, hxc⟩ := kx
        rw [HC.out] at hxc
        clear HC hne kd0 kd1 kd2
        have HA1 := hid (HA.out.below hxc)
        have HF := hid (Fr.bel (b := b) hxc)
        clear hxc d0 d1 d2
        go_wp2_with fail
        go_ret
        exact .mk' (congrArg Prod.fst HR.out) (by rw [HR.out]; rfl) HA1.out HF.out
  · have HR := hid (hr.trans (mark_stay _ _ he))
    have hne1 : (er != 0) = true := by simpa using he
    clear hr h hln
    go_enter Tryz.func182, Tryz.ntmps182
    go_wp2_with fail
    obtain ⟨C, hC⟩ : ∃ C : World → Prop, C = fun w' => Below w.heap.size w w' := ⟨_, rfl⟩
    have kd0 := kin_cell hC d0
    have kd1 := kin_cell hC d1
    have kd2 := kin_cell hC d2
    have HC := hid hC
    clear hC
    refine wp_region_kin C (by kernel_rfl) (by kernel_rfl) (by rw [HC.out]; exact ⟨rfl, rfl, rfl, Nat.le_refl _, fun _ _ => rfl⟩) ?_
    intro hne
    repeat (first | (go_big_quiet_step (fail)) | (quiet_step (fail)))
    refine wpQuiet_nil ?_
    intro _ hw'
    obtain ⟨kx, hw''⟩ := hw'
    subst hw''
    obtain ⟨w1, hxc⟩ := kx
    rw [HC.out] at hxc
    clear HC hne kd0 kd1 kd2
    have HA1 := hid (HA.out.below hxc)
    have HF := hid (Fr.bel (b := b) hxc)
    clear hxc d0 d1 d2
    go_wp2_with fail
    go_ret
    exact .mk' (congrArg Prod.fst HR.out) (by rw [HR.out]; rfl) HA1.out HF.out
end Go.Proofs.YtaooibocknemkaaGreat
