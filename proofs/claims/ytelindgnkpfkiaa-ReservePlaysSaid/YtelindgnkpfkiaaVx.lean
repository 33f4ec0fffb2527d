/-
  The document's reserves: a lease restored; sums, both ways. Conditions: the leases and coins lie in memory.
-/
import Derived.Test.YtelindgnkpfkiaaVw
import Derived.Test.YtelindgnkpfkiaaScr
namespace Go.Proofs.Ytelindgnkpfkiaa
open Go.RowKit Go.BigFrame Go.Maps
set_option linter.unusedVariables false
set_option linter.unusedSimpArgs false

set_option maxRecDepth 100000 in
set_option maxHeartbeats 4000000 in
theorem rrestore_any (tag : Nat) (sv : Value) (L : PLs) (key : Int) (p : Pt) (w : World) (hsv : SlAt rpLs w sv L) (hk : LsOk (key, p)) (hL : L.length < 1000) : Calls Try.prog 18 #[.agg #[.int .u16 tag, sv], .int .i64 key, .agg #[.string p.1, .int .u32 p.2]] w (RsP tag sv (rrestE L key p) w) := by
  have HSL := Lib.hid hsv
  have HKO := Lib.hid hk
  have HLL := Lib.hid hL
  obtain ⟨a, c, rfl, hl1, hl2⟩ := hsv.shape
  have hps : p.1.size ≤ 9223372036854775807 := by have := hk.id; rw [maxLen_eq] at this; exact this
  obtain ⟨n, hn⟩ : ∃ n, n = L.length := ⟨_, rfl⟩
  rw [← hn] at HSL ⊢
  clear hsv hk hL hl1 hl2 hn
  go_enter Try.func18, Try.ntmps18
  go_upto_region 1 with fail
  obtain ⟨X, hX⟩ : ∃ q, q = w.heap.size := ⟨_, rfl⟩
  have hnews := new3 w X hX (.cells #[.int .u16 tag, .slice a n c] 61) (.cells #[.string p.1, .int .u32 p.2] 35) (.cells #[.int .u16 0, .slice none 0 0] 61)
  rw [← hX]
  generalize (((w.alloc (.cells #[.int .u16 tag, .slice a n c] 61)).alloc (.cells #[.string p.1, .int .u32 p.2] 35)).alloc (.cells #[.int .u16 0, .slice none 0 0] 61)) = w0 at *
  obtain ⟨hz0, hz1, hz2, hal⟩ := hnews
  have HXW := Lib.hid hX
  have HZ0 := Lib.hid hz0
  have HZ1 := Lib.hid hz1
  have HZ2 := Lib.hid hz2
  have HB := Lib.hid hal
  have c0 : w0.cell? ⟨X, 0, none⟩ = some (.int .u16 tag) := cell_at hz0
  have c1 : w0.cell? ⟨X, 1, none⟩ = some (.slice a n c) := cell_at hz0
  have p0 : w0.cell? ⟨X + 1, 0, none⟩ = some (.string p.1) := cell_at hz1
  have p1 : w0.cell? ⟨X + 1, 1, none⟩ = some (.int .u32 p.2) := cell_at hz1
  clear hz0 hz1 hz2 hal hX
  by_cases hbad : key < 0 ∨ p.1.size ≠ 32
  · have HR := Lib.hid (show rrestE L key p = (L, 2) from if_pos hbad)
    have HTC := Lib.hid (two_cells HZ2.out (.int .u16 tag) (.slice a n c))
    have x0 : w0.cell? ⟨X + 1 + 1, 0, none⟩ = some (.int .u16 0) := cell_at HZ2.out
    have x1 : w0.cell? ⟨X + 1 + 1, 1, none⟩ = some (.slice none 0 0) := cell_at HZ2.out
    have f0 : w0.frozen? ⟨X + 1 + 1, 0, none⟩ = false := free_at HZ2.out
    have f1 : w0.frozen? ⟨X + 1 + 1, 1, none⟩ = false := free_at HZ2.out
    by_cases hk0 : key < 0
    · clear hbad hps
      go_wp2_with fail
      clear x0 x1 f0 f1 c0 c1 p0 p1
      have hz := HTC.out.1
      have hbf := HB.out.trans (HTC.out.2.2 w.heap.size (by have := HXW.out; omega))
      generalize (w0.setCell ⟨X + 1 + 1, 0, none⟩ (.int .u16 tag)).setCell ⟨X + 1 + 1, 1, none⟩ (.slice a n c) = wf at *
      have r0 : wf.cell? ⟨X + 1 + 1, 0, none⟩ = some (.int .u16 tag) := cell_at hz
      have r1 : wf.cell? ⟨X + 1 + 1, 1, none⟩ = some (.slice a n c) := cell_at hz
      have hfin := HSL.out.below hbf
      refine bodyPost_ret (v := .tuple #[.agg #[.int .u16 tag, .slice a n c], .int .i64 2]) (by simp [results, Try.results18, go_sem, r0, r1]) rfl ?_
      rw [HR.out]
      exact ⟨_, rfl, hfin, hbf, .inl rfl⟩
    · have hsz : ¬ ((p.1.size : Int) = 32) := by rcases hbad with h | h; exact absurd h hk0; omega
      clear hbad
      go_wp2_with fail
      clear x0 x1 f0 f1 c0 c1 p0 p1
      have hz := HTC.out.1
      have hbf := HB.out.trans (HTC.out.2.2 w.heap.size (by have := HXW.out; omega))
      generalize (w0.setCell ⟨X + 1 + 1, 0, none⟩ (.int .u16 tag)).setCell ⟨X + 1 + 1, 1, none⟩ (.slice a n c) = wf at *
      have r0 : wf.cell? ⟨X + 1 + 1, 0, none⟩ = some (.int .u16 tag) := cell_at hz
      have r1 : wf.cell? ⟨X + 1 + 1, 1, none⟩ = some (.slice a n c) := cell_at hz
      have hfin := HSL.out.below hbf
      refine bodyPost_ret (v := .tuple #[.agg #[.int .u16 tag, .slice a n c], .int .i64 2]) (by simp [results, Try.results18, go_sem, r0, r1]) rfl ?_
      rw [HR.out]
      exact ⟨_, rfl, hfin, hbf, .inl rfl⟩
  have HR1 := Lib.hid (show rrestE L key p = if (findI L key).isSome = true ∨ takenL L p = true then (L, 7) else (insL key p L, 0) from if_neg hbad)
  have hk0 : ¬ key < 0 := fun h => hbad (.inl h)
  have hsz : (p.1.size : Int) = 32 := by
    by_cases h : p.1.size = 32
    · omega
    · exact absurd (.inr h) hbad
  clear hbad hps
  go_wp2_with fail
  refine (rfind_any tag _ L key w0 (HSL.out.below HB.out)).mono ?_
  rintro e w1 ⟨rfl, hxc⟩
  have HB := Lib.hid (HB.out.trans (hxc.mono HB.out.size))
  have HZ2 := Lib.hid (stay HZ2.out hxc)
  replace c0 := below_cells hxc _ _ c0
  replace c1 := below_cells hxc _ _ c1
  replace p0 := below_cells hxc _ _ p0
  replace p1 := below_cells hxc _ _ p1
  clear hxc hsz hk0
  obtain ⟨fi, hfi⟩ : ∃ fi, fi = findI L key := ⟨_, rfl⟩
  rw [← hfi] at HR1 ⊢
  obtain ⟨iv, hiv⟩ : ∃ iv, iv = idxV fi := ⟨_, rfl⟩
  rw [← hiv]
  have HIV := Lib.hid hiv
  clear hfi hiv
  go_wp2_with fail
  refine (rtaken_any tag _ L p w1 (HSL.out.below HB.out) HKO.out.idx).mono ?_
  rintro e w2 ⟨rfl, hxc⟩
  have HB := Lib.hid (HB.out.trans (hxc.mono HB.out.size))
  have HZ2 := Lib.hid (stay HZ2.out hxc)
  replace c0 := below_cells hxc _ _ c0
  replace c1 := below_cells hxc _ _ c1
  replace p0 := below_cells hxc _ _ p0
  replace p1 := below_cells hxc _ _ p1
  clear hxc
  obtain ⟨tk, htk⟩ : ∃ tk, tk = takenL L p := ⟨_, rfl⟩
  rw [← htk] at HR1 ⊢
  clear htk
  by_cases hb : fi.isSome = true ∨ tk = true
  · have HR := Lib.hid (HR1.out.trans (if_pos hb))
    have HTC := Lib.hid (two_cells HZ2.out (.int .u16 tag) (.slice a n c))
    have x0 : w2.cell? ⟨X + 1 + 1, 0, none⟩ = some (.int .u16 0) := cell_at HZ2.out
    have x1 : w2.cell? ⟨X + 1 + 1, 1, none⟩ = some (.slice none 0 0) := cell_at HZ2.out
    have f0 : w2.frozen? ⟨X + 1 + 1, 0, none⟩ = false := free_at HZ2.out
    have f1 : w2.frozen? ⟨X + 1 + 1, 1, none⟩ = false := free_at HZ2.out
    have hz := HTC.out.1
    have hbf := HB.out.trans (HTC.out.2.2 w.heap.size (by have := HXW.out; omega))
    have HZF := Lib.hid hz
    have HBF := Lib.hid hbf
    clear hz hbf HTC
    cases fi with
    | some ix =>
      obtain rfl : iv = (ix : Int) := HIV.out
      clear hb
      go_wp2_with fail
      clear x0 x1 f0 f1 c0 c1 p0 p1
      generalize (w2.setCell ⟨X + 1 + 1, 0, none⟩ (.int .u16 tag)).setCell ⟨X + 1 + 1, 1, none⟩ (.slice a n c) = wf at *
      have r0 : wf.cell? ⟨X + 1 + 1, 0, none⟩ = some (.int .u16 tag) := cell_at HZF.out
      have r1 : wf.cell? ⟨X + 1 + 1, 1, none⟩ = some (.slice a n c) := cell_at HZF.out
      have hfin := HSL.out.below HBF.out
      refine bodyPost_ret (v := .tuple #[.agg #[.int .u16 tag, .slice a n c], .int .i64 7]) (by simp [results, Try.results18, go_sem, r0, r1]) rfl ?_
      rw [HR.out]
      exact ⟨_, rfl, hfin, HBF.out, .inl rfl⟩
    | none =>
      obtain rfl : iv = -1 := HIV.out
      obtain rfl : tk = true := by rcases hb with h | h; cases h; exact h
      clear hb
      go_wp2_with fail
      clear x0 x1 f0 f1 c0 c1 p0 p1
      generalize (w2.setCell ⟨X + 1 + 1, 0, none⟩ (.int .u16 tag)).setCell ⟨X + 1 + 1, 1, none⟩ (.slice a n c) = wf at *
      have r0 : wf.cell? ⟨X + 1 + 1, 0, none⟩ = some (.int .u16 tag) := cell_at HZF.out
      have r1 : wf.cell? ⟨X + 1 + 1, 1, none⟩ = some (.slice a n c) := cell_at HZF.out
      have hfin := HSL.out.below HBF.out
      refine bodyPost_ret (v := .tuple #[.agg #[.int .u16 tag, .slice a n c], .int .i64 7]) (by simp [results, Try.results18, go_sem, r0, r1]) rfl ?_
      rw [HR.out]
      exact ⟨_, rfl, hfin, HBF.out, .inl rfl⟩
  · have HR := Lib.hid (HR1.out.trans (if_neg hb))
    cases fi with
    | some ix => exact absurd (.inl rfl) hb
    | none =>
      obtain rfl : iv = -1 := HIV.out
      obtain rfl : tk = false := by cases tk; rfl; exact absurd (.inr rfl) hb
      clear hb
      go_wp2_with fail
      refine (rwith_any tag _ L key p w2 (HSL.out.below HB.out) HKO.out HLL.out).mono ?_
      rintro e w3 ⟨v, rfl, hown, hxc⟩
      have HB := Lib.hid (HB.out.trans (hxc.mono HB.out.size))
      have HZ2o := HZ2
      have HZ2 := Lib.hid (stay HZ2.out hxc)
      have HXL := Lib.hid (show X + 1 + 1 < w2.heap.size from lt_of HZ2o.out)
      have HV := Lib.hid hown
      obtain ⟨va, vc, rfl, -, -⟩ := ownsRow_shape hown.row
      clear hxc hown c0 c1 p0 p1
      obtain ⟨m, hm⟩ : ∃ m, m = (insL key p L).length := ⟨_, rfl⟩
      rw [← hm] at HV ⊢
      clear hm
      go_upto_region 8 with fail
      have hz := heap_alloc_new w3 (.cells #[.int .u16 tag, .slice va m vc] 61)
      have hal : Below w3.heap.size w3 (w3.alloc (.cells #[.int .u16 tag, .slice va m vc] 61)) := (Below.refl _ _).alloc (Nat.le_refl _) _
      obtain ⟨Q, hQ⟩ : ∃ q, q = w3.heap.size := ⟨_, rfl⟩
      rw [← hQ] at hz ⊢
      generalize w3.alloc (.cells #[.int .u16 tag, .slice va m vc] 61) = w4 at *
      have HB := Lib.hid (HB.out.trans (hal.mono HB.out.size))
      have HZ2 := Lib.hid (stay HZ2.out hal)
      have HV := Lib.hid (HV.out.below hal)
      have q0 : w4.cell? ⟨Q, 0, none⟩ = some (.int .u16 tag) := cell_at hz
      have q1 : w4.cell? ⟨Q, 1, none⟩ = some (.slice va m vc) := cell_at hz
      have HTC := Lib.hid (two_cells HZ2.out (.int .u16 tag) (.slice va m vc))
      have x0 : w4.cell? ⟨X + 1 + 1, 0, none⟩ = some (.int .u16 0) := cell_at HZ2.out
      have x1 : w4.cell? ⟨X + 1 + 1, 1, none⟩ = some (.slice none 0 0) := cell_at HZ2.out
      have f0 : w4.frozen? ⟨X + 1 + 1, 0, none⟩ = false := free_at HZ2.out
      have f1 : w4.frozen? ⟨X + 1 + 1, 1, none⟩ = false := free_at HZ2.out
      clear hz hal hQ
      go_wp2_with fail
      clear x0 x1 f0 f1 q0 q1
      have hz := HTC.out.1
      have hbf := HB.out.trans (HTC.out.2.2 w.heap.size (by have := HXW.out; omega))
      have hrow := ownsRow_other (ownsRow_other HV.out.row ⟨X + 1 + 1, 0, none⟩ (.int .u16 tag) (fun e => by have := (HV.out.row.lt _ e).1; have := HXL.out; dsimp only at *; omega)) ⟨X + 1 + 1, 1, none⟩ (.slice va m vc) (fun e => by have := (HV.out.row.lt _ e).1; have := HXL.out; dsimp only at *; omega)
      generalize (w4.setCell ⟨X + 1 + 1, 0, none⟩ (.int .u16 tag)).setCell ⟨X + 1 + 1, 1, none⟩ (.slice va m vc) = wf at *
      have r0 : wf.cell? ⟨X + 1 + 1, 0, none⟩ = some (.int .u16 tag) := cell_at hz
      have r1 : wf.cell? ⟨X + 1 + 1, 1, none⟩ = some (.slice va m vc) := cell_at hz
      have hfin : SlAt rpLs wf (.slice va m vc) (insL key p L) := (⟨hrow, HV.out.ok⟩ : LsOwn _ wf _ (insL key p L)).sl
      refine bodyPost_ret (v := .tuple #[.agg #[.int .u16 tag, .slice va m vc], .int .i64 0]) (by simp [results, Try.results18, go_sem, r0, r1]) rfl ?_
      rw [HR.out]
      exact ⟨_, rfl, hfin, hbf, .inr fun B hB => by have := (hrow.lt B hB).1; have := HXW.out; have := HXL.out; omega⟩

/-! ### sums -/
def sumStep (own : ByteArray) (tk : Pt → Bool) (s : Int × Int) (x : PEn) : Int × Int :=
  if x.script = own then (wrap64 (s.1 + x.val), if tk x.pt = true then wrap64 (s.2 + x.val) else s.2) else s
def sumP (own : ByteArray) (tk : Pt → Bool) (l : List PEn) : Int × Int := l.foldl (sumStep own tk) (0, 0)
theorem sumP_next {own : ByteArray} {tk : Pt → Bool} {l : List PEn} {k : Nat} {x : PEn} (hx : l[k]? = some x) : sumP own tk (l.take (k + 1)) = sumStep own tk (sumP own tk (l.take k)) x := by
  unfold sumP
  rw [take_snoc hx, List.foldl_append]
  rfl
def N2P (r : Int × Int) (w : World) (e : Ending) (w' : World) : Prop := e = .returned (.tuple #[.int .i64 r.1, .int .i64 r.2]) ∧ Below w.heap.size w w'
set_option maxRecDepth 100000 in
set_option maxHeartbeats 4000000 in
theorem psums_any {cn : Nat} (b m : Nat) (script : ByteArray) (M : Int → Option Pt) (sl : Value) (l : List PEn) (w : World) (hr : RsM w b m script M cn) (hsl : SlAt rpEn w sl l) : Calls Try.prog 21 #[.pointer (some ⟨b, 0, none⟩), sl] w (N2P (sumP script (takenB M) l) w) := by
  have HRM := Lib.hid hr
  have HSL := Lib.hid hsl
  obtain ⟨a, c, rfl, hl1, hl2⟩ := hsl.shape
  rw [maxLen_eq] at hl2
  obtain ⟨n, hn⟩ : ∃ n, n = l.length := ⟨_, rfl⟩
  rw [← hn] at hl1 HSL ⊢
  have HN := Lib.hid hn
  clear hn hsl hr
  go_enter Try.func21, Try.ntmps21
  go_wp2_with fail
  go_loopg [6, 7, 12] n (fun g s1 s2 i wr => ∃ (k : Nat) (r : Int × Int), g = n - k ∧ k ≤ n ∧ i = .int .i64 k ∧ s1 = .int .i64 r.1 ∧ s2 = .int .i64 r.2 ∧ r = sumP script (takenB M) (l.take k) ∧ Below w.heap.size w wr)
  case atStart => exact ⟨0, (0, 0), rfl, by omega, rfl, rfl, rfl, rfl, Below.refl _ _⟩
  case round =>
    rename World => wo
    obtain ⟨k, r, hgk, hk, rfl, rfl, rfl, hr, hb⟩ := hrel
    obtain ⟨r1, r2⟩ := r
    have HGK := Lib.hid hgk
    have HRR := Lib.hid hr
    have HB := Lib.hid hb
    clear hgk hr hb
    dsimp only
    by_cases hlt : k < n
    · obtain ⟨sb, so, x, rfl, hx, hxo, d0, d1, d2, d3, d4⟩ := (HSL.out.below HB.out).en hlt
      have HX := Lib.hid hx
      have hv1 := hxo.val
      have HNX := Lib.hid (show sumP script (takenB M) (l.take (k + 1)) = sumStep script (takenB M) (r1, r2) x by rw [sumP_next hx, ← HRR.out])
      clear hx hxo
      go_upto_region 5 with fail
      have hz := heap_alloc_new wo (.cells #[.string x.id, .int .u32 x.idx, .int .i64 x.val, .string x.script, .int .i64 x.ht] 41)
      have hal : Below wo.heap.size wo (wo.alloc (.cells #[.string x.id, .int .u32 x.idx, .int .i64 x.val, .string x.script, .int .i64 x.ht] 41)) := (Below.refl _ _).alloc (Nat.le_refl _) _
      obtain ⟨Y, hY⟩ : ∃ q, q = wo.heap.size := ⟨_, rfl⟩
      rw [← hY] at hz ⊢
      generalize wo.alloc (.cells #[.string x.id, .int .u32 x.idx, .int .i64 x.val, .string x.script, .int .i64 x.ht] 41) = w1 at *
      have HB1 := Lib.hid (HB.out.trans (hal.mono HB.out.size))
      have q0 : w1.cell? ⟨Y, 0, none⟩ = some (.string x.id) := cell_at hz
      have q1 : w1.cell? ⟨Y, 1, none⟩ = some (.int .u32 x.idx) := cell_at hz
      have q2 : w1.cell? ⟨Y, 2, none⟩ = some (.int .i64 x.val) := cell_at hz
      have q3 : w1.cell? ⟨Y, 3, none⟩ = some (.string x.script) := cell_at hz
      have c0 : w1.cell? ⟨b, 0, none⟩ = some (.string script) := cell_at (HRM.out.below HB1.out).box
      clear hz hal hY HB d0 d1 d2 d3 d4
      by_cases hs : x.script = script
      · have hbe : (x.script.toList == script.toList) = true := by rw [hs]; exact beq_self_eq_true _
        have HS := Lib.hid hs
        clear hs
        obtain ⟨C, hC⟩ : ∃ C : World → Prop, C = fun w' => Below w1.heap.size w1 w' := ⟨_, rfl⟩
        have kq0 := kin_cell hC q0
        have kq1 := kin_cell hC q1
        have kq2 := kin_cell hC q2
        have kq3 := kin_cell hC q3
        have kc0 := kin_cell hC c0
        have HC := Lib.hid hC
        clear hC
        refine wp_region_kin C (by kernel_rfl) (by kernel_rfl) (by rw [HC.out]; exact ⟨rfl, rfl, rfl, Nat.le_refl _, fun _ _ => rfl⟩) ?_
        intro hne
        repeat (first | (go_big_quiet_step (fail)) | (quiet_step (fail)))
        refine wpQuiet_nil ?_
        intro _ hw'
        obtain ⟨kx, hw''⟩ := hw'
        subst hw''
        obtain ⟨w2, hxc⟩ := kx
        rw [HC.out] at hxc
        clear HC hne kq0 kq1 kq2 kq3 kc0
        have HB2 := Lib.hid (HB1.out.trans (hxc.mono HB1.out.size))
        replace q0 := below_cells hxc _ _ q0
        replace q1 := below_cells hxc _ _ q1
        replace q2 := below_cells hxc _ _ q2
        clear hxc q3 c0 hbe HB1
        obtain ⟨tk, htk⟩ : ∃ tk, tk = takenB M x.pt := ⟨_, rfl⟩
        have HT := Lib.hid (show Calls Try.prog 29 #[.pointer (some ⟨b, 0, none⟩), .agg #[.string x.id, .int .u32 x.idx]] w2 (BIs tk w2) from htk ▸ taken_any b m script M x.pt w2 (HRM.out.below HB2.out))
        have HTK := Lib.hid htk
        clear htk
        go_wp2_with fail
        refine HT.out.mono ?_
        rintro e w3 ⟨rfl, hxc⟩
        have HB3 := Lib.hid (HB2.out.trans (hxc.mono HB2.out.size))
        replace q2 := below_cells hxc _ _ q2
        clear hxc q0 q1 HB2 HT
        cases tk
        · have HF := Lib.hid (HNX.out.trans (show sumStep script (takenB M) (r1, r2) x = (wrap64 (r1 + x.val), r2) by unfold sumStep; rw [if_pos HS.out, ← HTK.out]; rfl))
          go_wp2_with fail
          go_roundg (n - (k + 1))
          case measure => have := HGK.out; omega
          case rel => exact ⟨k + 1, (wrap64 (r1 + x.val), r2), rfl, by omega, by go_num, rfl, rfl, HF.out.symm, HB3.out⟩
        · have HF := Lib.hid (HNX.out.trans (show sumStep script (takenB M) (r1, r2) x = (wrap64 (r1 + x.val), wrap64 (r2 + x.val)) by unfold sumStep; rw [if_pos HS.out, ← HTK.out]; rfl))
          go_wp2_with fail
          go_roundg (n - (k + 1))
          case measure => have := HGK.out; omega
          case rel => exact ⟨k + 1, (wrap64 (r1 + x.val), wrap64 (r2 + x.val)), rfl, by omega, by go_num, rfl, rfl, HF.out.symm, HB3.out⟩
      · have hbe := vbytes_ne hs
        have HF := Lib.hid (HNX.out.trans (if_neg hs))
        clear hs
        obtain ⟨C, hC⟩ : ∃ C : World → Prop, C = fun w' => Below w1.heap.size w1 w' := ⟨_, rfl⟩
        have kq0 := kin_cell hC q0
        have kq1 := kin_cell hC q1
        have kq2 := kin_cell hC q2
        have kq3 := kin_cell hC q3
        have kc0 := kin_cell hC c0
        have HC := Lib.hid hC
        clear hC
        refine wp_region_kin C (by kernel_rfl) (by kernel_rfl) (by rw [HC.out]; exact ⟨rfl, rfl, rfl, Nat.le_refl _, fun _ _ => rfl⟩) ?_
        intro hne
        repeat (first | (go_big_quiet_step (fail)) | (quiet_step (fail)))
        refine wpQuiet_nil ?_
        intro _ hw'
        obtain ⟨kx, hw''⟩ := hw'
        subst hw''
        obtain ⟨w2, hxc⟩ := kx
        rw [HC.out] at hxc
        clear HC hne kq0 kq1 kq2 kq3 kc0
        have HB2 := Lib.hid (HB1.out.trans (hxc.mono HB1.out.size))
        clear hxc q0 q1 q2 q3 c0
        go_wp2_with fail
        go_roundg (n - (k + 1))
        case measure => have := HGK.out; omega
        case rel => exact ⟨k + 1, (r1, r2), rfl, by omega, by go_num, rfl, rfl, HF.out.symm, HB2.out⟩
    · obtain rfl : k = n := by omega
      have HF := Lib.hid (show sumP script (takenB M) l = (r1, r2) by rw [HRR.out, HN.out, List.take_length])
      go_wp2_with fail
      go_ret2
      rw [HF.out]
      exact ⟨rfl, HB.out⟩
set_option maxRecDepth 100000 in
set_option maxHeartbeats 4000000 in
theorem rsums_any (tag : Nat) (sv sl : Value) (L : PLs) (l : List PEn) (w : World) (hsv : SlAt rpLs w sv L) (hsl : SlAt rpEn w sl l) (ht : tag < 65536) : Calls Try.prog 22 #[.agg #[.int .u16 tag, sv], sl] w (N2P (sumP (scrT tag) (takenL L) l) w) := by
  have HSV := Lib.hid hsv
  have HSL := Lib.hid hsl
  obtain ⟨a', c', rfl, -, -⟩ := hsv.shape
  obtain ⟨a, c, rfl, hl1, hl2⟩ := hsl.shape
  rw [maxLen_eq] at hl2
  obtain ⟨n, hn⟩ : ∃ n, n = l.length := ⟨_, rfl⟩
  rw [← hn] at hl1 HSL ⊢
  have HN := Lib.hid hn
  obtain ⟨m, hm⟩ : ∃ m, m = L.length := ⟨_, rfl⟩
  rw [← hm] at HSV ⊢
  clear hn hsl hsv hm
  go_enter Try.func22, Try.ntmps22
  go_upto_region 3 with fail
  have hz := heap_alloc_new w (.cells #[.int .u16 tag, .slice a' m c'] 61)
  have hal : Below w.heap.size w (w.alloc (.cells #[.int .u16 tag, .slice a' m c'] 61)) := (Below.refl _ _).alloc (Nat.le_refl _) _
  obtain ⟨X, hX⟩ : ∃ q, q = w.heap.size := ⟨_, rfl⟩
  rw [← hX] at hz ⊢
  generalize w.alloc (.cells #[.int .u16 tag, .slice a' m c'] 61) = w0 at *
  have c0 : w0.cell? ⟨X, 0, none⟩ = some (.int .u16 tag) := cell_at hz
  have HZ := Lib.hid hz
  have HB := Lib.hid hal
  clear hz hal hX
  go_wp2_with fail
  refine (rscript_any tag ht w0).mono ?_
  rintro e w1 ⟨rfl, hxc⟩
  have HB := Lib.hid (HB.out.trans (hxc.mono HB.out.size))
  have HZ := Lib.hid (stay HZ.out hxc)
  clear hxc c0
  obtain ⟨own, hown⟩ : ∃ own, own = scrT tag := ⟨_, rfl⟩
  rw [← hown]
  have HOWN := Lib.hid hown
  clear hown
  go_wp2_with fail
  go_loopg [6, 7, 9] n (fun g s1 s2 i wr => ∃ (k : Nat) (r : Int × Int), g = n - k ∧ k ≤ n ∧ i = .int .i64 k ∧ s1 = .int .i64 r.1 ∧ s2 = .int .i64 r.2 ∧ r = sumP own (takenL L) (l.take k) ∧ Below w.heap.size w wr ∧ wr.heap[X]? = some (.cells #[.int .u16 tag, .slice a' m c'] 61 (0, 0)))
  case atStart => exact ⟨0, (0, 0), rfl, by omega, rfl, rfl, rfl, rfl, HB.out, HZ.out⟩
  case round =>
    clear HB HZ
    rename World => wo
    obtain ⟨k, r, hgk, hk, rfl, rfl, rfl, hr, hb, hz⟩ := hrel
    obtain ⟨r1, r2⟩ := r
    have HGK := Lib.hid hgk
    have HRR := Lib.hid hr
    have HB := Lib.hid hb
    have HZ := Lib.hid hz
    clear hgk hr hb hz
    dsimp only
    by_cases hlt : k < n
    · obtain ⟨sb, so, x, rfl, hx, hxo, d0, d1, d2, d3, d4⟩ := (HSL.out.below HB.out).en hlt
      have HX := Lib.hid hx
      have hv1 := hxo.val
      have hxi := hxo.idx
      have HNX := Lib.hid (show sumP own (takenL L) (l.take (k + 1)) = sumStep own (takenL L) (r1, r2) x by rw [sumP_next hx, ← HRR.out])
      have c0 : wo.cell? ⟨X, 0, none⟩ = some (.int .u16 tag) := cell_at HZ.out
      have c1 : wo.cell? ⟨X, 1, none⟩ = some (.slice a' m c') := cell_at HZ.out
      clear hx hxo d4
      by_cases hs : x.script = own
      · have hbe : (x.script.toList == own.toList) = true := by rw [hs]; exact beq_self_eq_true _
        have HS := Lib.hid hs
        clear hs
        go_upto_region 9 with fail
        obtain ⟨tk, htk⟩ : ∃ tk, tk = takenL L x.pt := ⟨_, rfl⟩
        have HTK := Lib.hid htk
        obtain ⟨C, hC⟩ : ∃ C : World → Prop, C = fun w' => Below wo.heap.size wo w' := ⟨_, rfl⟩
        have kc0 := kin_cell hC c0
        have kc1 := kin_cell hC c1
        have kd0 := kin_cell hC d0
        have kd1 := kin_cell hC d1
        have kd2 := kin_cell hC d2
        have kd3 := kin_cell hC d3
        have QNt := Lib.hid (kin_call hC fun y h => (HTK.out ▸ rtaken_any tag _ L x.pt y ((HSV.out.below HB.out).below h) hxi))
        clear htk
        have HC := Lib.hid hC
        clear hC
        refine wp_region_kin C (by kernel_rfl) (by kernel_rfl) (by rw [HC.out]; exact ⟨rfl, rfl, rfl, Nat.le_refl _, fun _ _ => rfl⟩) ?_
        intro hne
        repeat (first | (go_big_quiet_step ((rename_i y; go_at_call 33; exact Calls.kin (QNt.out y) (fun w' h => h)))) | (quiet_step ((rename_i y; go_at_call 33; exact Calls.kin (QNt.out y) (fun w' h => h)))))
        refine wpQuiet_nil ?_
        intro _ hw'
        obtain ⟨kx, hw''⟩ := hw'
        subst hw''
        obtain ⟨w3, hxc⟩ := kx
        rw [HC.out] at hxc
        clear HC hne kc0 kc1 kd0 kd1 kd2 kd3
        have HB3 := Lib.hid (HB.out.trans (hxc.mono HB.out.size))
        have HZ3 := Lib.hid (stay HZ.out hxc)
        replace d2 := below_cells hxc _ _ d2
        clear hxc c0 c1 d0 d1 d3 HB HZ
        cases tk
        · have HF := Lib.hid (HNX.out.trans (show sumStep own (takenL L) (r1, r2) x = (wrap64 (r1 + x.val), r2) by unfold sumStep; rw [if_pos HS.out, ← HTK.out]; rfl))
          go_wp2_with fail
          go_roundg (n - (k + 1))
          case measure => have := HGK.out; omega
          case rel => exact ⟨k + 1, (wrap64 (r1 + x.val), r2), rfl, by omega, by go_num, rfl, rfl, HF.out.symm, HB3.out, HZ3.out⟩
        · have HF := Lib.hid (HNX.out.trans (show sumStep own (takenL L) (r1, r2) x = (wrap64 (r1 + x.val), wrap64 (r2 + x.val)) by unfold sumStep; rw [if_pos HS.out, ← HTK.out]; rfl))
          go_wp2_with fail
          go_roundg (n - (k + 1))
          case measure => have := HGK.out; omega
          case rel => exact ⟨k + 1, (wrap64 (r1 + x.val), wrap64 (r2 + x.val)), rfl, by omega, by go_num, rfl, rfl, HF.out.symm, HB3.out, HZ3.out⟩
      · have hbe := vbytes_ne hs
        have HF := Lib.hid (HNX.out.trans (if_neg hs))
        clear hs
        go_wp2_with fail
        go_roundg (n - (k + 1))
        case measure => have := HGK.out; omega
        case rel => exact ⟨k + 1, (r1, r2), rfl, by omega, by go_num, rfl, rfl, HF.out.symm, HB.out, HZ.out⟩
    · obtain rfl : k = n := by omega
      have HF := Lib.hid (show sumP own (takenL L) l = (r1, r2) by rw [HRR.out, HN.out, List.take_length])
      go_wp2_with fail
      go_ret2
      rw [← HOWN.out, HF.out]
      exact ⟨rfl, HB.out⟩
end Go.Proofs.Ytelindgnkpfkiaa
