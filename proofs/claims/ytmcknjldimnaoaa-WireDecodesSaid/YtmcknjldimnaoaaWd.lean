/-
  wire.witnessed, wire.Encode, wire.Bare. Conditions: no more than a thousand Outs.
-/
import Derived.Test.YtmcknjldimnaoaaWc
import Derived.Test.YtmcknjldimnaoaaReg
namespace Go.Proofs.Ytmcknjldimnaoaa
open Go.RowKit Go.BigFrame
set_option linter.unusedVariables false
set_option linter.unusedSimpArgs false

/-- The predicate's contract, wherever the call stands. -/
def PredWit (w : World) (p : PIn → Bool) : Prop :=
  ∀ (w' : World) (v : Value) (x : PIn), Below w.heap.size w w' → InAt w' v x → Calls Try.prog 71 #[v] w' fun e w'' => e = .returned (.bool (p x)) ∧ Below w'.heap.size w' w''
set_option maxRecDepth 100000 in
set_option maxHeartbeats 2000000 in
theorem idxWit (v : Value) (xs : List PIn) (p : PIn → Bool) (w : World) (hv : SlAt rpIn w v xs) (hp : PredWit w p) :
    Calls Try.prog 106 #[v, .func (.func 71) #[] #[]] w fun e w' => (∃ n : Int, e = .returned (.int .i64 n) ∧ IdxIs p xs n) ∧ Below w.heap.size w w' := by
  obtain ⟨a, c, rfl, hl1, hl2⟩ := hv.shape
  rw [maxLen_eq] at hl2
  obtain ⟨n, hn⟩ : ∃ n, n = xs.length := ⟨_, rfl⟩
  rw [← hn] at hv hl1 ⊢
  have HN := Lib.hid hn
  have HP := Lib.hid hp
  clear hn hp
  go_enter Try.func106, Try.ntmps106
  go_wp2_with fail
  go_loopw [5, 8] (fun _ i wr => ∃ k : Nat, k ≤ n ∧ i = .int .i64 k ∧ Below w.heap.size w wr ∧ ∀ (j : Nat) (y : PIn), j < k → xs[j]? = some y → p y = false) (fun _ i _ => n - (intOf i).toNat)
  case atStart => exact ⟨0, Nat.zero_le _, rfl, Below.refl _ _, fun j x hj => absurd hj (Nat.not_lt_zero _)⟩
  case round =>
    rename World => wo
    obtain ⟨k, hk, rfl, hbw, hsame⟩ := hrel
    have HS := Lib.hid hsame
    have HW := Lib.hid hbw
    by_cases hlt : k < n
    · obtain ⟨b, o, x, wv, rfl, hx, hseq, hidx, hid, hwv, d0, d1, d2, d3⟩ := (hv.mono (below_cells hbw)).inp hlt
      have hc := HP.out wo (.agg #[.string x.id, .int .u32 x.idx, .int .u32 x.seq, wv]) x hbw ⟨wv, rfl, hwv, hidx, hseq, hid⟩
      have HX := Lib.hid hx
      obtain ⟨wa, wc, rfl, -, -⟩ := hwv.shape
      clear hx hseq hwv hbw hsame hv hidx hid
      cases hpx : p x
      · rw [hpx] at hc
        have HC := Lib.hid hc
        have HNX := Lib.hid (before_step HS.out HX.out hpx)
        clear hc hpx
        go_wp2_with fail
        refine HC.out.mono ?_
        rintro e w1 ⟨rfl, hb1⟩
        have HB1 := Lib.hid (HW.out.trans (hb1.mono HW.out.size))
        clear hb1
        go_wp2
        go_roundw
        case rel => exact ⟨k + 1, by omega, by go_num, HB1.out, HNX.out⟩
        case measure => simp [intOf]; omega
      · rw [hpx] at hc
        have HC := Lib.hid hc
        have HFN := Lib.hid (show IdxIs p xs (k : Int) from .inr ⟨k, x, rfl, HX.out, hpx, HS.out⟩)
        clear hc hpx
        go_wp2_with fail
        refine HC.out.mono ?_
        rintro e w1 ⟨rfl, hb1⟩
        have HB1 := Lib.hid (HW.out.trans (hb1.mono HW.out.size))
        clear hb1
        go_wp2
        go_ret
        exact ⟨⟨_, rfl, HFN.out⟩, HB1.out⟩
    · obtain rfl : k = n := by omega
      have HF := Lib.hid (any_no HN.out hsame)
      clear hsame hbw hv
      go_wp2
      go_ret
      exact ⟨⟨_, rfl, .inl ⟨rfl, HF.out⟩⟩, HW.out⟩
set_option maxHeartbeats 2000000 in
theorem conWit (v : Value) (xs : List PIn) (p : PIn → Bool) (w : World) (hv : SlAt rpIn w v xs) (hp : PredWit w p) :
    Calls Try.prog 70 #[v, .func (.func 71) #[] #[]] w fun e w' => e = .returned (.bool (xs.any p)) ∧ Below w.heap.size w w' := by
  have HI := Lib.hid (idxWit v xs p w hv hp)
  obtain ⟨a, c, rfl, hl1, hl2⟩ := hv.shape
  clear hv hl1 hl2 hp
  generalize xs.length = n at *
  go_enter Try.func70, Try.ntmps70
  go_wp2_with fail
  refine HI.out.mono ?_
  rintro e w1 ⟨⟨m, rfl, hm⟩, hb1⟩
  have HM := Lib.hid hm.any
  clear hm
  go_wp2
  go_ret
  exact ⟨ret_bool HM.out, hb1⟩



set_option maxRecDepth 100000 in
set_option maxHeartbeats 1000000 in
theorem wit1_any (v : Value) (x : PIn) (w : World) (hv : InAt w v x) : Calls Try.prog 71 #[v] w fun e w' => e = .returned (.bool (decide (0 < x.wit.length))) ∧ Below w.heap.size w w' := by
  obtain ⟨wv, rfl, hw, -, -, -⟩ := hv
  obtain ⟨a, c, rfl, h1, h2⟩ := hw.shape
  clear hw
  rw [maxLen_eq] at h2
  generalize x.wit.length = n at *
  go_enter Try.func71, Try.ntmps71
  go_wp2
  go_ret
  exact ⟨ret_bool (by first | (simp; done) | (simp; omega)), (Below.refl _ _).alloc (Nat.le_refl _) _⟩
set_option maxRecDepth 100000 in
set_option maxHeartbeats 1000000 in
theorem witnessed_any (v : Value) (t : PTx) (w : World) (hv : TxAt w v t) : Calls Try.prog 45 #[v] w (BIs (witOf t) w) := by
  obtain ⟨va, vo, rfl, hia, hob, -, -⟩ := hv
  obtain ⟨a, c, rfl, hl1, hl2⟩ := hia.shape
  obtain ⟨a', c', rfl, hl1', hl2'⟩ := hob.shape
  rw [maxLen_eq] at hl2 hl2'
  have HTB := Lib.hid (TB.start hia hob)
  clear hia hob
  go_enter Try.func45, Try.ntmps45
  have HCON := Lib.hid (conWit _ t.ins (fun x => decide (0 < x.wit.length)) _ HTB.out.ins (fun w' v' y hb hy => wit1_any v' y w' hy))
  have HW := Lib.hid (show witOf t = t.ins.any fun x => decide (0 < x.wit.length) from rfl)
  have HB := Lib.hid HTB.out.bel
  have c1 : (w.alloc (.cells #[.int .u32 t.ver, .slice a t.ins.length c, .slice a' t.outs.length c', .int .u32 t.lock] 26)).cell? ⟨w.heap.size, 1, none⟩ = some (.slice a t.ins.length c) := cell_at HTB.out.box
  clear HTB
  generalize witOf t = wt at *
  generalize (t.ins.any fun x => decide (0 < x.wit.length)) = bb at *
  generalize t.ins.length = n at *
  generalize t.outs.length = n' at *
  go_upto_region 1 with fail
  generalize w.alloc (.cells #[.int .u32 t.ver, .slice a n c, .slice a' n' c', .int .u32 t.lock] 26) = w0 at *
  go_wp2_with fail
  refine HCON.out.mono ?_
  rintro e w' ⟨rfl, hb⟩
  have HB2 := Lib.hid (HB.out.trans (hb.mono HB.out.size))
  clear hb
  go_wp2_with fail
  go_ret
  exact ⟨ret_bool HW.out.symm, HB2.out⟩

theorem witsL_le {t : PTx} (he : Enc t) (b : Bool) : (witsL b t.ins).length ≤ 110000 := by
  have h2 := flat_le witB 400 t.ins fun x hx => witB_le (he.ids x hx).2
  have h3 := he.ins
  unfold witsL
  split
  · omega
  · simp
theorem encL_le {t : PTx} (he : Enc t) (b : Bool) : (encL t b).length ≤ 200000 := by
  have h1 := preE_le he b
  have h2 := witsL_le he b
  have e : encL t b = preE t b ++ (witsL b t.ins ++ leB t.lock 4) := by simp [preE, preC, preA, encL, List.append_assoc]
  rw [e, List.length_append, List.length_append, leB_length]
  omega
/-- It returns this text and this error, and makes new blocks alone. -/
def TIs (s : ByteArray) (c : Int) (w : World) (e : Ending) (w' : World) : Prop := e = .returned (.tuple #[.string s, .int .i64 c]) ∧ Below w.heap.size w w'
noncomputable def encE (t : PTx) (b : Bool) : ByteArray := if checkOf t = 0 then bL (encL t b) else bL []

set_option maxRecDepth 100000 in
set_option maxHeartbeats 2000000 in
theorem wenc_any (v : Value) (t : PTx) (w : World) (hv : TxAt w v t) (hlen : t.outs.length ≤ 1000) : Calls Try.prog 26 #[v] w (TIs (encE t (witOf t)) (checkOf t) w) := by
  obtain ⟨va, vo, rfl, hia, hob, hv1, hv2⟩ := hv
  obtain ⟨a, c, rfl, hl1, hl2⟩ := hia.shape
  obtain ⟨a', c', rfl, hl1', hl2'⟩ := hob.shape
  have HTB := Lib.hid (TB.start hia hob)
  have HV := Lib.hid (And.intro hv1 hv2)
  have HO := Lib.hid hlen
  clear hia hob hv1 hv2 hl1 hl2 hl1' hl2' hlen
  obtain ⟨r, hr⟩ : ∃ r, r = encE t (witOf t) := ⟨_, rfl⟩
  rw [← hr]
  unfold encE at hr
  have HR := Lib.hid hr
  clear hr
  go_enter Try.func26, Try.ntmps26
  go_upto_region 1 with fail
  obtain ⟨n, hn⟩ : ∃ n, n = t.ins.length := ⟨_, rfl⟩
  obtain ⟨n', hn'⟩ : ∃ n, n = t.outs.length := ⟨_, rfl⟩
  rw [← hn, ← hn'] at HTB
  rw [← hn, ← hn']
  clear hn hn'
  generalize w.alloc (.cells #[.int .u32 t.ver, .slice a n c, .slice a' n' c', .int .u32 t.lock] 26) = w0 at *
  have c0 : w0.cell? ⟨w.heap.size, 0, none⟩ = some (.int .u32 t.ver) := cell_at HTB.out.box
  have c1 : w0.cell? ⟨w.heap.size, 1, none⟩ = some (.slice a n c) := cell_at HTB.out.box
  have c2 : w0.cell? ⟨w.heap.size, 2, none⟩ = some (.slice a' n' c') := cell_at HTB.out.box
  have c3 : w0.cell? ⟨w.heap.size, 3, none⟩ = some (.int .u32 t.lock) := cell_at HTB.out.box
  have HCK := Lib.hid (check_any _ t w0 (HTB.out.tx HV.out) HO.out)
  by_cases hc : checkOf t = 0
  · have HC0 := Lib.hid hc
    have HR2 := Lib.hid (show r = bL (encL t (witOf t)) from HR.out.trans (if_pos hc))
    rw [hc] at HCK
    clear hc HR
    go_wp2_with fail
    refine (HCK.out).mono ?_
    rintro e w1 ⟨rfl, hb⟩
    replace c0 := below_cells hb _ _ c0
    replace c1 := below_cells hb _ _ c1
    replace c2 := below_cells hb _ _ c2
    replace c3 := below_cells hb _ _ c3
    have HTB := Lib.hid (HTB.out.next hb)
    clear hb
    go_wp2_with fail
    obtain ⟨C, hC⟩ : ∃ C : World → Prop, C = fun w' => Below w1.heap.size w1 w' := ⟨_, rfl⟩
    have kc0 := kin_cell hC c0
    have kc1 := kin_cell hC c1
    have kc2 := kin_cell hC c2
    have kc3 := kin_cell hC c3
    have QW := Lib.hid (kin_call hC fun y h => witnessed_any _ t y ((HTB.out.tx HV.out).below h))
    have QE := Lib.hid (kin_call hC fun y h => encode_any _ t (witOf t) y ((HTB.out.tx HV.out).below h) (enc_of (whole_of HC0.out)))
    have HC := Lib.hid hC
    clear hC
    refine wp_region_kin C (by kernel_rfl) (by kernel_rfl) (by rw [HC.out]; exact ⟨rfl, rfl, rfl, Nat.le_refl _, fun _ _ => rfl⟩) ?_
    intro hne
    repeat (first | (go_big_quiet_step (first | (rename_i y; go_at_call 45; exact Calls.kin (QW.out y) (fun w' h => h)) | (rename_i y; go_at_call 44; exact Calls.kin (QE.out y) (fun w' h => h)))) | (quiet_step (first | (rename_i y; go_at_call 45; exact Calls.kin (QW.out y) (fun w' h => h)) | (rename_i y; go_at_call 44; exact Calls.kin (QE.out y) (fun w' h => h)))))
    refine wpQuiet_nil ?_
    intro _ hw'
    obtain ⟨kx, hw''⟩ := hw'
    subst hw''
    obtain ⟨w2, hxc⟩ := kx
    rw [HC.out] at hxc
    clear HC hne kc0 kc1 kc2 kc3
    have HB := Lib.hid (HTB.out.bel.trans (hxc.mono HTB.out.bel.size))
    clear hxc
    go_wp2_with fail
    exact bodyPost_ret (v := .tuple #[.string (bL (encL t (witOf t))), .int .i64 0]) (by simp [results, Try.results26, go_sem]) rfl ⟨by rw [HR2.out, HC0.out], HB.out⟩
  · have HR2 := Lib.hid (show r = bL [] from HR.out.trans (if_neg hc))
    clear HR
    have hc0 := hc
    generalize checkOf t = ck at *
    have hne : (ck == 0) = false := by simpa using hc0
    go_wp2_with fail
    refine (HCK.out).mono ?_
    rintro e w1 ⟨rfl, hb⟩
    have HTB := Lib.hid (HTB.out.next hb)
    clear hb
    have HB := Lib.hid HTB.out.bel
    go_wp2_with fail
    exact bodyPost_ret (v := .tuple #[.string ⟨#[]⟩, .int .i64 ck]) (by simp [results, Try.results26, go_sem]) rfl ⟨by rw [HR2.out]; rfl, HB.out⟩

set_option maxRecDepth 100000 in
set_option maxHeartbeats 2000000 in
theorem wbare_any (v : Value) (t : PTx) (w : World) (hv : TxAt w v t) (hlen : t.outs.length ≤ 1000) : Calls Try.prog 31 #[v] w (TIs (encE t false) (checkOf t) w) := by
  obtain ⟨va, vo, rfl, hia, hob, hv1, hv2⟩ := hv
  obtain ⟨a, c, rfl, hl1, hl2⟩ := hia.shape
  obtain ⟨a', c', rfl, hl1', hl2'⟩ := hob.shape
  have HTB := Lib.hid (TB.start hia hob)
  have HV := Lib.hid (And.intro hv1 hv2)
  have HO := Lib.hid hlen
  clear hia hob hv1 hv2 hl1 hl2 hl1' hl2' hlen
  obtain ⟨r, hr⟩ : ∃ r, r = encE t false := ⟨_, rfl⟩
  rw [← hr]
  unfold encE at hr
  have HR := Lib.hid hr
  clear hr
  go_enter Try.func31, Try.ntmps31
  go_upto_region 1 with fail
  obtain ⟨n, hn⟩ : ∃ n, n = t.ins.length := ⟨_, rfl⟩
  obtain ⟨n', hn'⟩ : ∃ n, n = t.outs.length := ⟨_, rfl⟩
  rw [← hn, ← hn'] at HTB
  rw [← hn, ← hn']
  clear hn hn'
  generalize w.alloc (.cells #[.int .u32 t.ver, .slice a n c, .slice a' n' c', .int .u32 t.lock] 26) = w0 at *
  have c0 : w0.cell? ⟨w.heap.size, 0, none⟩ = some (.int .u32 t.ver) := cell_at HTB.out.box
  have c1 : w0.cell? ⟨w.heap.size, 1, none⟩ = some (.slice a n c) := cell_at HTB.out.box
  have c2 : w0.cell? ⟨w.heap.size, 2, none⟩ = some (.slice a' n' c') := cell_at HTB.out.box
  have c3 : w0.cell? ⟨w.heap.size, 3, none⟩ = some (.int .u32 t.lock) := cell_at HTB.out.box
  have HCK := Lib.hid (check_any _ t w0 (HTB.out.tx HV.out) HO.out)
  by_cases hc : checkOf t = 0
  · have HC0 := Lib.hid hc
    have HR2 := Lib.hid (show r = bL (encL t false) from HR.out.trans (if_pos hc))
    rw [hc] at HCK
    clear hc HR
    go_wp2_with fail
    refine (HCK.out).mono ?_
    rintro e w1 ⟨rfl, hb⟩
    replace c0 := below_cells hb _ _ c0
    replace c1 := below_cells hb _ _ c1
    replace c2 := below_cells hb _ _ c2
    replace c3 := below_cells hb _ _ c3
    have HTB := Lib.hid (HTB.out.next hb)
    clear hb
    go_wp2_with fail
    refine (encode_any _ t false w1 (HTB.out.tx HV.out) (enc_of (whole_of HC0.out))).mono ?_
    rintro e w2 ⟨rfl, hb⟩
    have HTB := Lib.hid (HTB.out.next hb)
    clear hb
    have HB := Lib.hid HTB.out.bel
    go_wp2_with fail
    exact bodyPost_ret (v := .tuple #[.string (bL (encL t false)), .int .i64 0]) (by simp [results, Try.results31, go_sem]) rfl ⟨by rw [HR2.out, HC0.out], HB.out⟩
  · have HR2 := Lib.hid (show r = bL [] from HR.out.trans (if_neg hc))
    clear HR
    have hc0 := hc
    generalize checkOf t = ck at *
    have hne : (ck == 0) = false := by simpa using hc0
    go_wp2_with fail
    refine (HCK.out).mono ?_
    rintro e w1 ⟨rfl, hb⟩
    have HTB := Lib.hid (HTB.out.next hb)
    clear hb
    have HB := Lib.hid HTB.out.bel
    go_wp2_with fail
    exact bodyPost_ret (v := .tuple #[.string ⟨#[]⟩, .int .i64 ck]) (by simp [results, Try.results31, go_sem]) rfl ⟨by rw [HR2.out]; rfl, HB.out⟩
end Go.Proofs.Ytmcknjldimnaoaa
