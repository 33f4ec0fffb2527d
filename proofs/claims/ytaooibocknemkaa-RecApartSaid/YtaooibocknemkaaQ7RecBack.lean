/-
  RecBack, part 7: the texts Wd, Ed, Ee, Ek, Ra, one after another. Conditions: none beyond those named at each.
-/
import Derived.Test.YtaooibocknemkaaWc
import Derived.Test.YtaooibocknemkaaQ5RecBack
import Derived.Test.YtaooibocknemkaaQ6RecBack
import Derived.Test.YtaooibocknemkaaQ4RecBack
section
/-
  wire.witnessed, wire.Encode, wire.Bare. Conditions: no more than a thousand Outs.
-/
namespace Go.Proofs.Ytaooibocknemkaa
open Go.RowKit Go.BigFrame
set_option linter.unusedVariables false
set_option linter.unusedSimpArgs false

/-- The predicate's contract, wherever the call stands. -/
def PredWit (w : World) (p : PIn → Bool) : Prop :=
  ∀ (w' : World) (v : Value) (x : PIn), Below w.heap.size w w' → InAt w' v x → Calls Try.prog 67 #[v] w' fun e w'' => e = .returned (.bool (p x)) ∧ Below w'.heap.size w' w''
set_option maxRecDepth 100000 in
set_option maxHeartbeats 2000000 in
theorem idxWit (v : Value) (xs : List PIn) (p : PIn → Bool) (w : World) (hv : SlAt rpIn w v xs) (hp : PredWit w p) :
    Calls Try.prog 85 #[v, .func (.func 67) #[] #[]] w fun e w' => (∃ n : Int, e = .returned (.int .i64 n) ∧ IdxIs p xs n) ∧ Below w.heap.size w w' := by
  obtain ⟨a, c, rfl, hl1, hl2⟩ := hv.shape
  rw [maxLen_eq] at hl2
  obtain ⟨n, hn⟩ : ∃ n, n = xs.length := ⟨_, rfl⟩
  rw [← hn] at hv hl1 ⊢
  have HN := Lib.hid hn
  have HP := Lib.hid hp
  clear hn hp
  go_enter Try.func85, Try.ntmps85
  go_wp2_with fail
  go_loopw [5, 8] (fun _ i wr => ∃ k : Nat, k ≤ n ∧ i = .int .i64 k ∧ Below w.heap.size w wr ∧ ∀ (j : Nat) (y : PIn), j < k → xs[j]? = some y → p y = false) (fun _ i _ => n - (intOf i).toNat)
  case atStart => exact ⟨0, Nat.zero_le _, rfl, Below.refl _ _, fun j x hj => absurd hj (Nat.not_lt_zero _)⟩
  case round =>
    rename World => wo
    obtain ⟨k, hk, rfl, hbw, hsame⟩ := hrel
    have HS := Lib.hid hsame
    have HW := Lib.hid hbw
    by_cases hlt : k < n
    · obtain ⟨b, o, x, wv, rfl, hx, hseq, hidx, hid, hwv, d0, d1, d2, d3⟩ := (hv.mono (below_cells hbw)).inp hlt
      have hc := HP.out wo (.agg #[.string x.id, .int .u32 x.idx, .int .u32 x.seq, wv]) x hbw ⟨wv, rfl, hwv, hidx, hseq, hid⟩
      have HX := Lib.hid hx
      obtain ⟨wa, wc, rfl, -, -⟩ := hwv.shape
      clear hx hseq hwv hbw hsame hv hidx hid
      cases hpx : p x
      · rw [hpx] at hc
        have HC := Lib.hid hc
        have HNX := Lib.hid (before_step HS.out HX.out hpx)
        clear hc hpx
        go_wp2_with fail
        refine HC.out.mono ?_
        rintro e w1 ⟨rfl, hb1⟩
        have HB1 := Lib.hid (HW.out.trans (hb1.mono HW.out.size))
        clear hb1
        go_wp2
        go_roundw
        case rel => exact ⟨k + 1, by omega, by go_num, HB1.out, HNX.out⟩
        case measure => simp [intOf]; omega
      · rw [hpx] at hc
        have HC := Lib.hid hc
        have HFN := Lib.hid (show IdxIs p xs (k : Int) from .inr ⟨k, x, rfl, HX.out, hpx, HS.out⟩)
        clear hc hpx
        go_wp2_with fail
        refine HC.out.mono ?_
        rintro e w1 ⟨rfl, hb1⟩
        have HB1 := Lib.hid (HW.out.trans (hb1.mono HW.out.size))
        clear hb1
        go_wp2
        go_ret
        exact ⟨⟨_, rfl, HFN.out⟩, HB1.out⟩
    · obtain rfl : k = n := by omega
      have HF := Lib.hid (any_no HN.out hsame)
      clear hsame hbw hv
      go_wp2
      go_ret
      exact ⟨⟨_, rfl, .inl ⟨rfl, HF.out⟩⟩, HW.out⟩
set_option maxHeartbeats 2000000 in
theorem conWit (v : Value) (xs : List PIn) (p : PIn → Bool) (w : World) (hv : SlAt rpIn w v xs) (hp : PredWit w p) :
    Calls Try.prog 66 #[v, .func (.func 67) #[] #[]] w fun e w' => e = .returned (.bool (xs.any p)) ∧ Below w.heap.size w w' := by
  have HI := Lib.hid (idxWit v xs p w hv hp)
  obtain ⟨a, c, rfl, hl1, hl2⟩ := hv.shape
  clear hv hl1 hl2 hp
  generalize xs.length = n at *
  go_enter Try.func66, Try.ntmps66
  go_wp2_with fail
  refine HI.out.mono ?_
  rintro e w1 ⟨⟨m, rfl, hm⟩, hb1⟩
  have HM := Lib.hid hm.any
  clear hm
  go_wp2
  go_ret
  exact ⟨ret_bool HM.out, hb1⟩



set_option maxRecDepth 100000 in
set_option maxHeartbeats 1000000 in
theorem wit1_any (v : Value) (x : PIn) (w : World) (hv : InAt w v x) : Calls Try.prog 67 #[v] w fun e w' => e = .returned (.bool (decide (0 < x.wit.length))) ∧ Below w.heap.size w w' := by
  obtain ⟨wv, rfl, hw, -, -, -⟩ := hv
  obtain ⟨a, c, rfl, h1, h2⟩ := hw.shape
  clear hw
  rw [maxLen_eq] at h2
  generalize x.wit.length = n at *
  go_enter Try.func67, Try.ntmps67
  go_wp2
  go_ret
  exact ⟨ret_bool (by first | (simp; done) | (simp; omega)), (Below.refl _ _).alloc (Nat.le_refl _) _⟩
set_option maxRecDepth 100000 in
set_option maxHeartbeats 1000000 in
theorem witnessed_any (v : Value) (t : PTx) (w : World) (hv : TxAt w v t) : Calls Try.prog 49 #[v] w (BIs (witOf t) w) := by
  obtain ⟨va, vo, rfl, hia, hob, -, -⟩ := hv
  obtain ⟨a, c, rfl, hl1, hl2⟩ := hia.shape
  obtain ⟨a', c', rfl, hl1', hl2'⟩ := hob.shape
  rw [maxLen_eq] at hl2 hl2'
  have HTB := Lib.hid (TB.start hia hob)
  clear hia hob
  go_enter Try.func49, Try.ntmps49
  have HCON := Lib.hid (conWit _ t.ins (fun x => decide (0 < x.wit.length)) _ HTB.out.ins (fun w' v' y hb hy => wit1_any v' y w' hy))
  have HW := Lib.hid (show witOf t = t.ins.any fun x => decide (0 < x.wit.length) from rfl)
  have HB := Lib.hid HTB.out.bel
  have c1 : (w.alloc (.cells #[.int .u32 t.ver, .slice a t.ins.length c, .slice a' t.outs.length c', .int .u32 t.lock] 29)).cell? ⟨w.heap.size, 1, none⟩ = some (.slice a t.ins.length c) := cell_at HTB.out.box
  clear HTB
  generalize witOf t = wt at *
  generalize (t.ins.any fun x => decide (0 < x.wit.length)) = bb at *
  generalize t.ins.length = n at *
  generalize t.outs.length = n' at *
  go_upto_region 1 with fail
  generalize w.alloc (.cells #[.int .u32 t.ver, .slice a n c, .slice a' n' c', .int .u32 t.lock] 29) = w0 at *
  go_wp2_with fail
  refine HCON.out.mono ?_
  rintro e w' ⟨rfl, hb⟩
  have HB2 := Lib.hid (HB.out.trans (hb.mono HB.out.size))
  clear hb
  go_wp2_with fail
  go_ret
  exact ⟨ret_bool HW.out.symm, HB2.out⟩

theorem witsL_le {t : PTx} (he : Enc t) (b : Bool) : (witsL b t.ins).length ≤ 110000 := by
  have h2 := flat_le witB 400 t.ins fun x hx => witB_le (he.ids x hx).2
  have h3 := he.ins
  unfold witsL
  split
  · omega
  · simp
theorem encL_le {t : PTx} (he : Enc t) (b : Bool) : (encL t b).length ≤ 200000 := by
  have h1 := preE_le he b
  have h2 := witsL_le he b
  have e : encL t b = preE t b ++ (witsL b t.ins ++ leB t.lock 4) := by simp [preE, preC, preA, encL, List.append_assoc]
  rw [e, List.length_append, List.length_append, leB_length]
  omega
/-- It returns this text and this error, and makes new blocks alone. -/
def TIs (s : ByteArray) (c : Int) (w : World) (e : Ending) (w' : World) : Prop := e = .returned (.tuple #[.string s, .int .i64 c]) ∧ Below w.heap.size w w'
noncomputable def encE (t : PTx) (b : Bool) : ByteArray := if checkOf t = 0 then bL (encL t b) else bL []

set_option maxRecDepth 100000 in
set_option maxHeartbeats 2000000 in
theorem wenc_any (v : Value) (t : PTx) (w : World) (hv : TxAt w v t) (hlen : t.outs.length ≤ 1000) : Calls Try.prog 34 #[v] w (TIs (encE t (witOf t)) (checkOf t) w) := by
  obtain ⟨va, vo, rfl, hia, hob, hv1, hv2⟩ := hv
  obtain ⟨a, c, rfl, hl1, hl2⟩ := hia.shape
  obtain ⟨a', c', rfl, hl1', hl2'⟩ := hob.shape
  have HTB := Lib.hid (TB.start hia hob)
  have HV := Lib.hid (And.intro hv1 hv2)
  have HO := Lib.hid hlen
  clear hia hob hv1 hv2 hl1 hl2 hl1' hl2' hlen
  obtain ⟨r, hr⟩ : ∃ r, r = encE t (witOf t) := ⟨_, rfl⟩
  rw [← hr]
  unfold encE at hr
  have HR := Lib.hid hr
  clear hr
  go_enter Try.func34, Try.ntmps34
  go_upto_region 1 with fail
  obtain ⟨n, hn⟩ : ∃ n, n = t.ins.length := ⟨_, rfl⟩
  obtain ⟨n', hn'⟩ : ∃ n, n = t.outs.length := ⟨_, rfl⟩
  rw [← hn, ← hn'] at HTB
  rw [← hn, ← hn']
  clear hn hn'
  generalize w.alloc (.cells #[.int .u32 t.ver, .slice a n c, .slice a' n' c', .int .u32 t.lock] 29) = w0 at *
  have c0 : w0.cell? ⟨w.heap.size, 0, none⟩ = some (.int .u32 t.ver) := cell_at HTB.out.box
  have c1 : w0.cell? ⟨w.heap.size, 1, none⟩ = some (.slice a n c) := cell_at HTB.out.box
  have c2 : w0.cell? ⟨w.heap.size, 2, none⟩ = some (.slice a' n' c') := cell_at HTB.out.box
  have c3 : w0.cell? ⟨w.heap.size, 3, none⟩ = some (.int .u32 t.lock) := cell_at HTB.out.box
  have HCK := Lib.hid (check_any _ t w0 (HTB.out.tx HV.out) HO.out)
  by_cases hc : checkOf t = 0
  · have HC0 := Lib.hid hc
    have HR2 := Lib.hid (show r = bL (encL t (witOf t)) from HR.out.trans (if_pos hc))
    rw [hc] at HCK
    clear hc HR
    go_wp2_with fail
    refine (HCK.out).mono ?_
    rintro e w1 ⟨rfl, hb⟩
    replace c0 := below_cells hb _ _ c0
    replace c1 := below_cells hb _ _ c1
    replace c2 := below_cells hb _ _ c2
    replace c3 := below_cells hb _ _ c3
    have HTB := Lib.hid (HTB.out.next hb)
    clear hb
    go_wp2_with fail
    obtain ⟨C, hC⟩ : ∃ C : World → Prop, C = fun w' => Below w1.heap.size w1 w' := ⟨_, rfl⟩
    have kc0 := kin_cell hC c0
    have kc1 := kin_cell hC c1
    have kc2 := kin_cell hC c2
    have kc3 := kin_cell hC c3
    have QW := Lib.hid (kin_call hC fun y h => witnessed_any _ t y ((HTB.out.tx HV.out).below h))
    have QE := Lib.hid (kin_call hC fun y h => encode_any _ t (witOf t) y ((HTB.out.tx HV.out).below h) (enc_of (whole_of HC0.out)))
    have HC := Lib.hid hC
    clear hC
    refine wp_region_kin C (by kernel_rfl) (by kernel_rfl) (by rw [HC.out]; exact ⟨rfl, rfl, rfl, Nat.le_refl _, fun _ _ => rfl⟩) ?_
    intro hne
    repeat (first | (go_big_quiet_step (first | (rename_i y; go_at_call 49; exact Calls.kin (QW.out y) (fun w' h => h)) | (rename_i y; go_at_call 48; exact Calls.kin (QE.out y) (fun w' h => h)))) | (quiet_step (first | (rename_i y; go_at_call 49; exact Calls.kin (QW.out y) (fun w' h => h)) | (rename_i y; go_at_call 48; exact Calls.kin (QE.out y) (fun w' h => h)))))
    refine wpQuiet_nil ?_
    intro _ hw'
    obtain ⟨kx, hw''⟩ := hw'
    subst hw''
    obtain ⟨w2, hxc⟩ := kx
    rw [HC.out] at hxc
    clear HC hne kc0 kc1 kc2 kc3
    have HB := Lib.hid (HTB.out.bel.trans (hxc.mono HTB.out.bel.size))
    clear hxc
    go_wp2_with fail
    exact bodyPost_ret (v := .tuple #[.string (bL (encL t (witOf t))), .int .i64 0]) (by simp [results, Try.results34, go_sem]) rfl ⟨by rw [HR2.out, HC0.out], HB.out⟩
  · have HR2 := Lib.hid (show r = bL [] from HR.out.trans (if_neg hc))
    clear HR
    have hc0 := hc
    generalize checkOf t = ck at *
    have hne : (ck == 0) = false := by simpa using hc0
    go_wp2_with fail
    refine (HCK.out).mono ?_
    rintro e w1 ⟨rfl, hb⟩
    have HTB := Lib.hid (HTB.out.next hb)
    clear hb
    have HB := Lib.hid HTB.out.bel
    go_wp2_with fail
    exact bodyPost_ret (v := .tuple #[.string ⟨#[]⟩, .int .i64 ck]) (by simp [results, Try.results34, go_sem]) rfl ⟨by rw [HR2.out]; rfl, HB.out⟩

end Go.Proofs.Ytaooibocknemkaa
end

section
/-
  Records as plain data: what is put is got again, and what is got is put as it stood. Conditions: those named in each theorem.
-/
namespace Go.Proofs.Ytaooibocknemkaa
open Go.RowKit
set_option linter.unusedVariables false
set_option linter.unusedSimpArgs false

structure TxN (t : PTx) : Prop where
  ver : t.ver < 4294967296
  lock : t.lock < 4294967296
  ins : ∀ x ∈ t.ins, x.idx < 4294967296 ∧ x.seq < 4294967296
theorem okP_txN {t : PTx} (h : checkOf t = 0) (hn : TxN t) : OkP t := by
  have hw := whole_of h
  have he := enc_of hw
  have hc := (counts_parts hw.counts).1
  refine ⟨hn.ver, hn.lock, ⟨hc.1, hc.2.1⟩, ⟨hc.2.2.1, hc.2.2.2⟩, fun x hx => ⟨⟨(he.ids x hx).1, hn.ins x hx⟩, ⟨⟨Nat.zero_le _, (he.ids x hx).2.1⟩, (he.ids x hx).2.2⟩⟩, fun x hx => he.vals x hx⟩
theorem encL_tight {t : PTx} (he : Enc t) (b : Bool) : (encL t b).length ≤ 150000 := by
  have h0 := witsL_le he b
  have h1 := vintL_le t.ins.length
  have h2 := vintL_le t.outs.length
  have h3 := flat_le inB 60 t.ins fun x hx => inB_le (he.ids x hx).1
  have h4 := flat_le outB 60 t.outs fun x hx => outB_le (he.vals x hx).2
  have h5 : (markL b).length ≤ 2 := by unfold markL; split <;> simp
  have h6 := he.ins
  have h7 := he.outs
  unfold encL
  simp only [List.length_append, leB_length]
  omega
theorem txL_len {t : PTx} (h : checkOf t = 0) : (txL t).length ≤ 150000 := encL_tight (enc_of (whole_of h)) _

noncomputable def wishP (r : PRec) (x : RdS) : RdS × PRec :=
  ((numI 4 (numI 8 (numI 4 (numR 4 (numR 2 (numR 2 (numI 1 x).1).1).1).1).1).1).1,
    { r with br := (numI 1 x).2, tag := (numR 2 (numI 1 x).1).2, delay := (numR 2 (numR 2 (numI 1 x).1).1).2, height := (numR 4 (numR 2 (numR 2 (numI 1 x).1).1).1).2,
             dead := (numI 4 (numR 4 (numR 2 (numR 2 (numI 1 x).1).1).1).1).2, budget := (numI 8 (numI 4 (numR 4 (numR 2 (numR 2 (numI 1 x).1).1).1).1).1).2,
             start := (numI 4 (numI 8 (numI 4 (numR 4 (numR 2 (numR 2 (numI 1 x).1).1).1).1).1).1).2 })
def pointP (r : PRec) (x : RdS) : RdS × PRec := ((numR 4 (takeR 32 x).1).1, { r with id := bL (takeR 32 x).2, idx := (numR 4 (takeR 32 x).1).2 })
noncomputable def bodyP (r : PRec) (x : RdS) : RdS × PRec :=
  if r.kind = 1 then wishP { r with tx := (txR x).2, index := (numI 2 (txR x).1).2 } (numI 2 (txR x).1).1
  else if r.kind = 2 then wishP { (pointP r x).2 with val := (numI 8 (pointP r x).1).2 } (numI 8 (pointP r x).1).1
  else if r.kind = 3 then pointP r x
  else if r.kind = 4 then ((numI 8 (numI 2 (pointP r x).1).1).1, { (pointP r x).2 with index := (numI 2 (pointP r x).1).2, fee := (numI 8 (numI 2 (pointP r x).1).1).2 })
  else (x, r)
def headR (l : List UInt8) : PRec := { noRec with kind := (numI 1 ⟨l, true⟩).2, num := (numI 4 (numI 1 ⟨l, true⟩).1).2 }
def headS (l : List UInt8) : RdS := (numI 4 (numI 1 ⟨l, true⟩).1).1
noncomputable def parseP (l : List UInt8) : RdS × PRec := bodyP (headR l) (headS l)

/-! ### there -/
theorem wish_back {r : PRec} (r0 : PRec) (m : List UInt8) (hb : 0 ≤ r.br ∧ r.br ≤ 2) (ht : r.tag < 65536) (hd : r.delay < 65536) (hh : r.height ≤ 1000000) (he : 0 ≤ r.dead ∧ r.dead ≤ 1000000) (hs : 0 ≤ r.start ∧ r.start ≤ 1000000) (hg : money r.budget) :
    wishP r0 ⟨wishL r, true⟩ = (⟨[], true⟩, { r0 with br := r.br, tag := r.tag, delay := r.delay, height := r.height, dead := r.dead, budget := r.budget, start := r.start }) := by
  have p1 : (256 : Nat) ^ 1 = 256 := rfl
  have p2 : (256 : Nat) ^ 2 = 65536 := rfl
  have p4 : (256 : Nat) ^ 4 = 4294967296 := rfl
  have p8 : (256 : Nat) ^ 8 = 18446744073709551616 := rfl
  obtain ⟨g1, g2⟩ := hg
  unfold wishP wishL
  rw [numI_back hb.1 (by omega) (by omega)]
  dsimp only
  rw [numR_back (by omega)]
  dsimp only
  rw [numR_back (by omega)]
  dsimp only
  rw [numR_back (by omega)]
  dsimp only
  rw [numI_back he.1 (by omega) (by omega)]
  dsimp only
  rw [numI_back g1 (by omega) (by omega)]
  dsimp only
  rw [numI_back hs.1 (by omega) (by omega)]
theorem point_back {r : PRec} (r0 : PRec) (m : List UInt8) (hi : r.id.size = 32) (hx : r.idx < 4294967296) : pointP r0 ⟨pointL r m, true⟩ = (⟨m, true⟩, { r0 with id := r.id, idx := r.idx }) := by
  have p4 : (256 : Nat) ^ 4 = 4294967296 := rfl
  unfold pointP pointL
  rw [takeR_back (by rw [data_len, hi])]
  dsimp only
  rw [numR_back (by omega), bL_data]
structure RecN (r : PRec) : Prop where
  tx : TxN r.tx
  idx : r.idx < 4294967296
  tag : r.tag < 65536
  delay : r.delay < 65536
theorem body_back {r : PRec} (hc : checkR r = 0) (hn : RecN r) : bodyP { noRec with kind := r.kind, num := r.num } ⟨bodyL r, true⟩ = (⟨[], true⟩, r) := by
  obtain ⟨hk, ho, hr⟩ := checkR_zero hc
  have p2 : (256 : Nat) ^ 2 = 65536 := rfl
  have p8 : (256 : Nat) ^ 8 = 18446744073709551616 := rfl
  unfold bodyP bodyL
  dsimp only
  unfold ownR at ho
  by_cases k1 : r.kind = 1
  · rw [if_pos k1] at ho ⊢
    rw [if_pos k1]
    obtain ⟨c1, c2, c3⟩ := hr.com k1
    have hl := txL_len c1
    have hou := (counts_parts (whole_of c1).counts).1.2.2.2
    rw [txR_back (okP_txN c1 hn.tx) c1 (by omega)]
    dsimp only
    rw [numI_back c2 (by omega) (by omega)]
    dsimp only
    rw [wish_back _ [] hr.br hn.tag hn.delay hr.height hr.dead hr.start hr.budget]
    exact Prod.ext rfl ho
  · rw [if_neg k1] at ho ⊢
    rw [if_neg k1]
    by_cases k2 : r.kind = 2
    · rw [if_pos k2] at ho ⊢
      rw [if_pos k2, point_back _ _ (hr.id (by omega) (by omega)) hn.idx]
      dsimp only
      obtain ⟨g1, g2⟩ := hr.val
      rw [numI_back g1 (by omega) (by omega)]
      dsimp only
      rw [wish_back _ [] hr.br hn.tag hn.delay hr.height hr.dead hr.start hr.budget]
      exact Prod.ext rfl ho
    · rw [if_neg k2] at ho ⊢
      rw [if_neg k2]
      by_cases k3 : r.kind = 3
      · rw [if_pos k3] at ho ⊢
        rw [if_pos k3, point_back _ _ (hr.id (by omega) (by omega)) hn.idx]
        exact Prod.ext rfl ho
      · rw [if_neg k3] at ho ⊢
        rw [if_neg k3]
        by_cases k4 : r.kind = 4
        · rw [if_pos k4] at ho ⊢
          rw [if_pos k4, point_back _ _ (hr.id (by omega) (by omega)) hn.idx]
          dsimp only
          obtain ⟨g1, g2⟩ := hr.fee
          have hb := hr.bid k4
          rw [numI_back hb.1 (by omega) (by omega)]
          dsimp only
          rw [numI_back g1 (by omega) (by omega)]
          exact Prod.ext rfl ho
        · rw [if_neg k4] at ho ⊢
          rw [if_neg k4]
          exact Prod.ext rfl ho
theorem parse_back {r : PRec} (hc : checkR r = 0) (hn : RecN r) : parseP (payL r) = (⟨[], true⟩, r) := by
  obtain ⟨hk, ho, hr⟩ := checkR_zero hc
  have p1 : (256 : Nat) ^ 1 = 256 := rfl
  have p4 : (256 : Nat) ^ 4 = 4294967296 := rfl
  have hk1 := hk.1
  have hk2 := hk.2
  have hn1 := hr.num
  unfold parseP headR headS payL
  rw [numI_back (n := r.kind) (by omega) (by omega) (by omega)]
  dsimp only
  rw [numI_back (n := r.num) (by omega) (by omega) (by omega)]
  exact body_back hc hn

/-! ### and back -/
theorem wish_again {r0 : PRec} {x : RdS} (h : (wishP r0 x).1.ok = true) (hb : 0 ≤ (wishP r0 x).2.br) (he : 0 ≤ (wishP r0 x).2.dead) (hg : 0 ≤ (wishP r0 x).2.budget) (hs : 0 ≤ (wishP r0 x).2.start) :
    x.ok = true ∧ x.t ++ [] = wishL (wishP r0 x).2 ++ (wishP r0 x).1.t := by
  unfold wishP at h hb he hg hs ⊢
  dsimp only at h hb he hg hs ⊢
  obtain ⟨a7, b7⟩ := numI_again (by decide) h hs
  obtain ⟨a6, b6⟩ := numI_again (by decide) a7 hg
  obtain ⟨a5, b5⟩ := numI_again (by decide) a6 he
  obtain ⟨a4, b4, -⟩ := numR_again a5
  obtain ⟨a3, b3, -⟩ := numR_again a4
  obtain ⟨a2, b2, -⟩ := numR_again a3
  obtain ⟨a1, b1⟩ := numI_again (by decide) a2 hb
  refine ⟨a1, ?_⟩
  unfold wishL
  dsimp only
  simp only [List.append_assoc, List.nil_append, List.append_nil]
  rw [← b7, ← b6, ← b5, ← b4, ← b3, ← b2, ← b1]
theorem point_again {r0 : PRec} {x : RdS} (h : (pointP r0 x).1.ok = true) : x.ok = true ∧ x.t = pointL (pointP r0 x).2 (pointP r0 x).1.t := by
  unfold pointP at h ⊢
  dsimp only at h ⊢
  obtain ⟨a2, b2, -⟩ := numR_again h
  obtain ⟨a1, b1, -⟩ := takeR_again a2
  refine ⟨a1, ?_⟩
  unfold pointL
  dsimp only
  rw [bL_list, ← b2]
  exact b1
theorem body_kind {r : PRec} {x : RdS} : (bodyP r x).2.kind = r.kind ∧ (bodyP r x).2.num = r.num := by
  unfold bodyP
  repeat' split
  all_goals exact ⟨rfl, rfl⟩
theorem body_again {r : PRec} {x : RdS} (h : (bodyP r x).1.ok = true) (ht : (bodyP r x).1.t = []) (hr : Ranged (bodyP r x).2) : x.ok = true ∧ x.t = bodyL (bodyP r x).2 := by
  have hkn := body_kind (r := r) (x := x)
  obtain ⟨n1, n2, n3, n4, n5, n6, n7, n8, n9, n10, n11⟩ := hr
  unfold bodyL
  rw [hkn.1] at n9 n10 n11 ⊢
  unfold bodyP at h ht n1 n2 n3 n4 n5 n6 n7 n8 n9 n10 n11 ⊢
  by_cases k1 : r.kind = 1
  · rw [if_pos k1] at h ht n1 n2 n3 n4 n5 n6 n7 n8 n9 n10 n11 ⊢
    rw [if_pos k1]
    obtain ⟨a3, b3⟩ := wish_again h n2.1 n4.1 n6.1 n5.1
    rw [ht, List.append_nil, List.append_nil] at b3
    obtain ⟨a2, b2⟩ := numI_again (by decide) a3 (n11 k1).2.1
    obtain ⟨a1, b1, -⟩ := txR_again a2
    refine ⟨a1, ?_⟩
    rw [b1, b2, b3]
    rfl
  · rw [if_neg k1] at h ht n1 n2 n3 n4 n5 n6 n7 n8 n9 n10 n11 ⊢
    rw [if_neg k1]
    by_cases k2 : r.kind = 2
    · rw [if_pos k2] at h ht n1 n2 n3 n4 n5 n6 n7 n8 n9 n10 n11 ⊢
      rw [if_pos k2]
      obtain ⟨a3, b3⟩ := wish_again h n2.1 n4.1 n6.1 n5.1
      rw [ht, List.append_nil, List.append_nil] at b3
      obtain ⟨a2, b2⟩ := numI_again (by decide) a3 n7.1
      obtain ⟨a1, b1⟩ := point_again a2
      refine ⟨a1, ?_⟩
      rw [b1, b2, b3]
      rfl
    · rw [if_neg k2] at h ht n1 n2 n3 n4 n5 n6 n7 n8 n9 n10 n11 ⊢
      rw [if_neg k2]
      by_cases k3 : r.kind = 3
      · rw [if_pos k3] at h ht n1 n2 n3 n4 n5 n6 n7 n8 n9 n10 n11 ⊢
        rw [if_pos k3]
        obtain ⟨a1, b1⟩ := point_again h
        rw [ht] at b1
        exact ⟨a1, b1⟩
      · rw [if_neg k3] at h ht n1 n2 n3 n4 n5 n6 n7 n8 n9 n10 n11 ⊢
        rw [if_neg k3]
        by_cases k4 : r.kind = 4
        · rw [if_pos k4] at h ht n1 n2 n3 n4 n5 n6 n7 n8 n9 n10 n11 ⊢
          rw [if_pos k4]
          obtain ⟨a3, b3⟩ := numI_again (by decide) h n8.1
          rw [ht] at b3
          obtain ⟨a2, b2⟩ := numI_again (by decide) a3 (n10 k4).1
          obtain ⟨a1, b1⟩ := point_again a2
          refine ⟨a1, ?_⟩
          rw [b1, b2, b3]
          rfl
        · rw [if_neg k4] at h ht
          rw [if_neg k4]
          exact ⟨h, ht⟩
theorem parse_again {l : List UInt8} (h : (parseP l).1.ok = true) (ht : (parseP l).1.t = []) (hc : checkR (parseP l).2 = 0) : payL (parseP l).2 = l := by
  obtain ⟨hk, -, hr⟩ := checkR_zero hc
  obtain ⟨k1, k2⟩ := body_kind (r := headR l) (x := headS l)
  obtain ⟨a3, b3⟩ := body_again (r := headR l) (x := headS l) h ht hr
  have h0 : 0 ≤ (headR l).kind := by rw [← k1]; have := hk.1; show 0 ≤ (parseP l).2.kind; omega
  have h1 : 0 ≤ (headR l).num := by rw [← k2]; exact hr.num.1
  obtain ⟨a2, b2⟩ := numI_again (k := 4) (by decide) a3 h1
  obtain ⟨a1, b1⟩ := numI_again (k := 1) (by decide) a2 h0
  show leB (bodyP (headR l) (headS l)).2.kind.toNat 1 ++ (leB (bodyP (headR l) (headS l)).2.num.toNat 4 ++ bodyL (bodyP (headR l) (headS l)).2) = l
  rw [k1, k2, ← b3]
  exact (b1.trans (congrArg _ b2)).symm
end Go.Proofs.Ytaooibocknemkaa
end

section
/-
  Records as plain data: where one stands in a text, what is cut or turned of it, which stand one behind the other. Conditions: those named in each theorem.
-/
namespace Go.Proofs.Ytaooibocknemkaa
open Go.RowKit
set_option linter.unusedVariables false
set_option linter.unusedSimpArgs false

noncomputable def goodP (l : List UInt8) : Bool := ((parseP l).1.ok && decide ((parseP l).1.t = [])) && decide (checkR (parseP l).2 = 0)
def lenQ (q : List UInt8) : Nat := leN (q.take 4)
def sumQ (q : List UInt8) : Nat := leN ((q.drop 4).take 4)
def payQ (q : List UInt8) : List UInt8 := (q.drop 8).take (lenQ q)
/-- Of what stands from a place on: the record, its bytes' number, the error. -/
noncomputable def getQ (q : List UInt8) : PRec × Nat × Int :=
  if q.length < 8 then (noRec, 0, 5) else if 200000 < lenQ q then (noRec, 0, 20) else if q.length < 8 + lenQ q then (noRec, 0, 5)
  else if ¬ (crcL (payQ q)).toNat = sumQ q then (noRec, 0, 19) else if goodP (payQ q) = false then (noRec, 0, 4) else ((parseP (payQ q)).2, 8 + lenQ q, 0)
noncomputable def getL (l : List UInt8) (p : Nat) : PRec × Nat × Int := ((getQ (l.drop p)).1, if (getQ (l.drop p)).2.2 = 0 then p + (getQ (l.drop p)).2.1 else 0, (getQ (l.drop p)).2.2)
theorem bodyL_le {r : PRec} (hc : checkR r = 0) : (bodyL r).length ≤ 150100 := by
  obtain ⟨hk, ho, hr⟩ := checkR_zero hc
  have hw : (wishL r).length = 25 := by unfold wishL; simp [leB_length]
  have hp : ∀ m, 1 < r.kind → r.kind < 5 → (pointL r m).length = 36 + m.length := fun m h1 h2 => by
    unfold pointL
    rw [List.length_append, List.length_append, data_len, hr.id h1 h2, leB_length]
    omega
  unfold bodyL
  split
  · rename_i k1
    have h1 := txL_len (hr.com k1).1
    have h2 := vintL_le (txL r.tx).length
    simp only [List.length_append, leB_length, hw]
    omega
  · split
    · rw [hp _ (by omega) (by omega), List.length_append, leB_length, hw]; omega
    · split
      · rw [hp _ (by omega) (by omega)]; simp
      · split
        · rw [hp _ (by omega) (by omega)]; simp [leB_length]
        · simp
theorem payL_le {r : PRec} (hc : checkR r = 0) : 5 ≤ (payL r).length ∧ (payL r).length ≤ 150105 := by
  have := bodyL_le hc
  unfold payL
  simp only [List.length_append, leB_length]
  omega
theorem putL_len (r : PRec) : (putL r).length = 8 + (payL r).length := by
  unfold putL
  simp only [List.length_append, leB_length]
  omega
theorem putL_take (r : PRec) (b : List UInt8) : (putL r ++ b).take 4 = leB (payL r).length 4 ∧ ((putL r ++ b).drop 4).take 4 = leB (crcL (payL r)).toNat 4 ∧ (putL r ++ b).drop 8 = payL r ++ b := by
  have h1 := leB_length (payL r).length 4
  have h2 := leB_length (crcL (payL r)).toNat 4
  have e1 : (putL r ++ b).drop 4 = leB (crcL (payL r)).toNat 4 ++ (payL r ++ b) := by
    unfold putL
    rw [List.append_assoc, List.append_assoc, List.drop_append_of_le_length (by omega), show (leB (payL r).length 4).drop 4 = [] from List.drop_of_length_le (by omega)]
    rfl
  refine ⟨?_, ?_, ?_⟩
  · unfold putL
    rw [List.append_assoc, List.take_append_of_le_length (by omega), List.take_of_length_le (by omega)]
  · rw [e1, List.take_append_of_le_length (by omega), List.take_of_length_le (by omega)]
  · rw [show 8 = 4 + 4 from rfl, ← List.drop_drop, e1, List.drop_append_of_le_length (by omega), show (leB (crcL (payL r)).toNat 4).drop 4 = [] from List.drop_of_length_le (by omega)]
    rfl
theorem crc_small (l : List UInt8) : (crcL l).toNat < 256 ^ 4 := (crcL l).isLt
theorem getQ_back {r : PRec} (hc : checkR r = 0) (hn : RecN r) (b : List UInt8) : getQ (putL r ++ b) = (r, (putL r).length, 0) := by
  obtain ⟨t1, t2, t3⟩ := putL_take r b
  have hl := payL_le hc
  have hpl := putL_len r
  have e1 : lenQ (putL r ++ b) = (payL r).length := by unfold lenQ; rw [t1, leN_leB' (by have : (256 : Nat) ^ 4 = 4294967296 := rfl; omega)]
  have e2 : sumQ (putL r ++ b) = (crcL (payL r)).toNat := by unfold sumQ; rw [t2, leN_leB' (crc_small _)]
  have e3 : payQ (putL r ++ b) = payL r := by unfold payQ; rw [t3, e1, List.take_append_of_le_length (by omega), List.take_of_length_le (by omega)]
  have hln : (putL r ++ b).length = (putL r).length + b.length := List.length_append
  have hg : goodP (payL r) = true := by
    unfold goodP
    rw [parse_back hc hn]
    simp [hc]
  unfold getQ
  rw [if_neg (by omega), e1, if_neg (by omega), if_neg (by omega), e3, e2, if_neg (fun h => h rfl), hg, if_neg (by decide), parse_back hc hn, hpl]
theorem get_back {r : PRec} (hc : checkR r = 0) (hn : RecN r) (a b : List UInt8) : getL (a ++ (putL r ++ b)) a.length = (r, a.length + (putL r).length, 0) := by
  unfold getL
  rw [List.drop_left, getQ_back hc hn]
  rfl
theorem getQ_again {q : List UInt8} (h : (getQ q).2.2 = 0) : checkR (getQ q).1 = 0 ∧ (∃ b, q = putL (getQ q).1 ++ b) ∧ (getQ q).2.1 = (putL (getQ q).1).length := by
  unfold getQ at h ⊢
  split at h
  · exact absurd h (by decide)
  · rename_i h1
    rw [if_neg h1]
    split at h
    · exact absurd h (by decide)
    · rename_i h2
      rw [if_neg h2]
      split at h
      · exact absurd h (by decide)
      · rename_i h3
        rw [if_neg h3]
        split at h
        · exact absurd h (by decide)
        · rename_i h4
          rw [if_neg h4]
          split at h
          · exact absurd h (by decide)
          · rename_i h5
            rw [if_neg h5]
            dsimp only
            have hg : goodP (payQ q) = true := by simpa using h5
            unfold goodP at hg
            simp only [Bool.and_eq_true, decide_eq_true_eq] at hg
            obtain ⟨⟨g1, g2⟩, g3⟩ := hg
            have hp := parse_again g1 g2 g3
            have hpl : (payQ q).length = lenQ q := by unfold payQ; rw [List.length_take, List.length_drop]; omega
            refine ⟨g3, ⟨(q.drop 8).drop (lenQ q), ?_⟩, ?_⟩
            · unfold putL
              rw [hp, hpl]
              have hs : (crcL (payQ q)).toNat = sumQ q := Classical.byContradiction h4
              have l1 : (q.take 4).length = 4 := by rw [List.length_take]; omega
              have l2 : ((q.drop 4).take 4).length = 4 := by rw [List.length_take, List.length_drop]; omega
              have e1 : leB (lenQ q) 4 = q.take 4 := by
                unfold lenQ
                conv => lhs; rw [show leB (leN (q.take 4)) 4 = leB (leN (q.take 4)) (q.take 4).length by rw [l1]]
                exact leB_leN _
              have e2 : leB (sumQ q) 4 = (q.drop 4).take 4 := by
                unfold sumQ
                conv => lhs; rw [show leB (leN ((q.drop 4).take 4)) 4 = leB (leN ((q.drop 4).take 4)) ((q.drop 4).take 4).length by rw [l2]]
                exact leB_leN _
              rw [hs, e1, e2]
              unfold payQ
              rw [List.append_assoc, List.append_assoc, List.take_append_drop, show q.drop 8 = (q.drop 4).drop 4 by rw [List.drop_drop], List.take_append_drop, List.take_append_drop]
            · rw [putL_len, hp, hpl]
theorem get_again {l : List UInt8} {p : Nat} (h : (getL l p).2.2 = 0) : checkR (getL l p).1 = 0 ∧ (∃ b, l.drop p = putL (getL l p).1 ++ b) ∧ (getL l p).2.1 = p + (putL (getL l p).1).length := by
  obtain ⟨h1, h2, h3⟩ := getQ_again (q := l.drop p) h
  refine ⟨h1, h2, ?_⟩
  unfold getL at h ⊢
  dsimp only at h ⊢
  rw [if_pos h, h3]
theorem getQ_cut {r : PRec} (hc : checkR r = 0) {c : Nat} (h : c < (putL r).length) : getQ ((putL r).take c) = (noRec, 0, 5) := by
  have hl := payL_le hc
  have hpl := putL_len r
  have hln : ((putL r).take c).length = c := by rw [List.length_take]; omega
  unfold getQ
  by_cases h8 : c < 8
  · rw [if_pos (by omega)]
  · obtain ⟨t1, -, -⟩ := putL_take r []
    rw [List.append_nil] at t1
    have e1 : lenQ ((putL r).take c) = (payL r).length := by
      unfold lenQ
      rw [List.take_take, show min 4 c = 4 by omega, t1, leN_leB' (by have : (256 : Nat) ^ 4 = 4294967296 := rfl; omega)]
    rw [if_neg (by omega), e1, if_neg (by omega), if_pos (by omega)]
theorem getQ_turn {r : PRec} (hc : checkR r = 0) {k : Nat} {x y : UInt8} (hk : 4 ≤ k) (hx : (putL r)[k]? = some x) (hxy : x ≠ y) : getQ ((putL r).set k y) = (noRec, 0, 19) := by
  have hl := payL_le hc
  have hpl := putL_len r
  have hkl := (List.getElem?_eq_some_iff.1 hx).1
  obtain ⟨t1, t2, t3⟩ := putL_take r []
  rw [List.append_nil] at t1 t2 t3
  rw [List.append_nil] at t3
  have hln : ((putL r).set k y).length = (putL r).length := List.length_set
  have e1 : lenQ ((putL r).set k y) = (payL r).length := by
    unfold lenQ
    rw [List.take_set_of_le hk, t1, leN_leB' (by have : (256 : Nat) ^ 4 = 4294967296 := rfl; omega)]
  have hne : ¬ (crcL (payQ ((putL r).set k y))).toNat = sumQ ((putL r).set k y) := by
    unfold payQ sumQ
    rw [e1]
    rcases Nat.lt_or_ge k 8 with h8 | h8
    · rw [List.drop_set_of_lt h8, t3, List.take_of_length_le (Nat.le_refl _)]
      rw [List.drop_set, if_neg (by omega), List.take_set, t2]
      intro e
      have h5 : leN (leB (crcL (payL r)).toNat 4) = leN ((leB (crcL (payL r)).toNat 4).set (k - 4) y) := by rw [leN_leB' (crc_small _)]; exact e
      have h6 := leN_inj _ _ (by rw [List.length_set]) h5
      have h7 : (leB (crcL (payL r)).toNat 4)[k - 4]? = ((leB (crcL (payL r)).toNat 4).set (k - 4) y)[k - 4]? := congrArg (fun l => l[k - 4]?) h6
      rw [List.getElem?_set_self (by rw [leB_length]; omega), ← t2, List.getElem?_take_of_lt (by omega), List.getElem?_drop, show 4 + (k - 4) = k by omega, hx] at h7
      exact hxy (Option.some.inj h7)
    · rw [List.drop_set, if_neg (by omega), t3, List.take_of_length_le (by rw [List.length_set]; exact Nat.le_refl _)]
      have e4 : (((putL r).set k y).drop 4).take 4 = leB (crcL (payL r)).toNat 4 := by rw [List.drop_set, if_neg (by omega), List.take_set_of_le (by omega), t2]
      rw [e4, leN_leB' (crc_small _)]
      intro e
      have hxp : (payL r)[k - 8]? = some x := by rw [← t3, List.getElem?_drop, show 8 + (k - 8) = k by omega]; exact hx
      have hkp := (List.getElem?_eq_some_iff.1 hxp).1
      have s1 : payL r = (payL r).take (k - 8) ++ x :: (payL r).drop (k - 8 + 1) := by
        rw [← (List.getElem?_eq_some_iff.1 hxp).2, List.getElem_cons_drop, List.take_append_drop]
      have s2 : (payL r).set (k - 8) y = (payL r).take (k - 8) ++ y :: (payL r).drop (k - 8 + 1) := List.set_eq_take_append_cons_drop.trans (if_pos hkp)
      have e2 : crcL ((payL r).set (k - 8) y) = crcL (payL r) := BitVec.eq_of_toNat_eq e
      rw [s2] at e2
      conv at e2 => rhs; rw [s1]
      exact hxy (crc_turn e2).symm
  unfold getQ
  rw [if_neg (by omega), e1, if_neg (by omega), if_neg (by omega), if_pos hne]
theorem putL_apart {r q : PRec} (hr : checkR r = 0) (hrn : RecN r) (hq : checkR q = 0) (hqn : RecN q) {b : List UInt8} (h : putL r = putL q ++ b) : r = q := by
  have h1 := getQ_back hr hrn []
  have h2 := getQ_back hq hqn b
  rw [List.append_nil, h, h2] at h1
  exact (congrArg Prod.fst h1).symm
end Go.Proofs.Ytaooibocknemkaa
end

section
/-
  rec.number, rec.point, rec.wish: a record's parts as bytes. Conditions: the record lies in memory; what is put is no less than 0.
-/
namespace Go.Proofs.Ytaooibocknemkaa
open Go.RowKit Go.BigFrame
set_option linter.unusedVariables false
set_option linter.unusedSimpArgs false
theorem recnum_any (n : Int) (k : Nat) (h0 : 0 ≤ n) (h1 : n ≤ 9223372036854775807) (hk : okSize k) (w : World) : Calls Try.prog 23 #[.int .i64 n, .int .i64 k] w (SIs (leB n.toNat k) w) := by
  obtain ⟨m, rfl⟩ : ∃ m : Nat, n = m := ⟨n.toNat, by omega⟩
  have h2 : (m : Int) ≤ 9223372036854775807 := h1
  have H := Lib.hid (oput_any m k (by omega) hk w)
  rw [show (m : Int).toNat = m from rfl]
  clear h1
  go_enter Try.func23, Try.ntmps23
  go_wp2_with fail
  refine H.out.mono ?_
  rintro e w1 ⟨rfl, hb⟩
  go_wp2_with fail
  go_ret
  exact ⟨rfl, hb⟩
set_option maxRecDepth 100000 in
set_option maxHeartbeats 4000000 in
theorem recpoint_any (i : ByteArray) (x : Nat) (hi : i.size ≤ 1000000) (hx : x < 4294967296) (w : World) : Calls Try.prog 37 #[.agg #[.string i, .int .u32 x]] w (SIs (i.data.toList ++ leB x 4) w) := by
  obtain ⟨s1, hs1⟩ : ∃ s, s = bL (leB x 4) := ⟨_, rfl⟩
  have q1 : s1.size = 4 := by rw [hs1, bL_size, leB_length]
  have HS := Lib.hid (show i ++ s1 = bL (i.data.toList ++ leB x 4) from by rw [hs1, ← bL_app, bL_data])
  have H1 := Lib.hid (show ∀ y : World, Calls Try.prog 24 #[.int .u64 x, .int .i64 4] y (fun e w' => e = .returned (.string s1) ∧ Below y.heap.size y w') from fun y => by rw [hs1]; exact oput_any x 4 (by omega) (.inr (.inr (.inl rfl))) y)
  clear hs1
  have hwr : IntKind.u64.wrap (x : Int) = x := by rw [IntKind.wrap_u64]; omega
  go_enter Try.func37, Try.ntmps37
  go_upto_region 1 with fail
  have hz := heap_alloc_new w (.cells #[.string i, .int .u32 x] 34)
  have hal : Below w.heap.size w (w.alloc (.cells #[.string i, .int .u32 x] 34)) := (Below.refl _ _).alloc (Nat.le_refl _) _
  obtain ⟨X, hX⟩ : ∃ q, q = w.heap.size := ⟨_, rfl⟩
  rw [← hX] at hz ⊢
  generalize w.alloc (.cells #[.string i, .int .u32 x] 34) = w0 at *
  have x0 : w0.cell? ⟨X, 0, none⟩ = some (.string i) := cell_at hz
  have x1 : w0.cell? ⟨X, 1, none⟩ = some (.int .u32 x) := cell_at hz
  have HB := Lib.hid hal
  clear hz hal hX
  obtain ⟨C, hC⟩ : ∃ C : World → Prop, C = fun w' => Below w0.heap.size w0 w' := ⟨_, rfl⟩
  have kx0 := kin_cell hC x0
  have kx1 := kin_cell hC x1
  have QA := Lib.hid (kin_call hC fun y h => H1.out y)
  have HC := Lib.hid hC
  clear hC
  refine wp_region_kin C (by kernel_rfl) (by kernel_rfl) (by rw [HC.out]; exact ⟨rfl, rfl, rfl, Nat.le_refl _, fun _ _ => rfl⟩) ?_
  intro hne
  repeat (first | (go_big_quiet_step ((rename_i y; go_at_call 24; exact Calls.kin (QA.out y) (fun w' h => h)))) | (quiet_step ((rename_i y; go_at_call 24; exact Calls.kin (QA.out y) (fun w' h => h)))))
  refine wpQuiet_nil ?_
  intro _ hw'
  obtain ⟨kx, hw''⟩ := hw'
  subst hw''
  obtain ⟨w1, hxc⟩ := kx
  rw [HC.out] at hxc
  clear HC hne kx0 kx1
  have HB := Lib.hid (HB.out.trans (hxc.mono HB.out.size))
  go_wp2_with fail
  go_ret
  exact ⟨congrArg (fun s => Ending.returned (.string s)) HS.out, HB.out⟩
set_option maxRecDepth 100000 in
set_option maxHeartbeats 8000000 in
theorem recwish_any (v1 : Value) (r : PRec) (w : World) (h1 : RecAt w v1 r) (g1 : 0 ≤ r.br) (g2 : 0 ≤ r.dead) (g3 : 0 ≤ r.budget) (g4 : 0 ≤ r.start) : Calls Try.prog 36 #[v1] w (SIs (wishL r) w) := by
  obtain ⟨va, vb, rfl, hi1, ho1, hk1⟩ := h1
  have HI := Lib.hid hi1
  have HO := Lib.hid ho1
  have HK := Lib.hid hk1
  obtain ⟨ia, ic, rfl, -, -⟩ := hi1.shape
  obtain ⟨oa, oc, rfl, -, -⟩ := ho1.shape
  obtain ⟨n1, hn1⟩ : ∃ n, n = r.tx.ins.length := ⟨_, rfl⟩
  obtain ⟨n2, hn2⟩ : ∃ n, n = r.tx.outs.length := ⟨_, rfl⟩
  rw [← hn1, ← hn2]
  rw [← hn1] at HI
  rw [← hn2] at HO
  have hwt : IntKind.i64.wrap (r.tag : Int) = r.tag := by have := hk1.tag; rw [IntKind.wrap_i64]; omega
  have hwd : IntKind.i64.wrap (r.delay : Int) = r.delay := by have := hk1.delay; rw [IntKind.wrap_i64]; omega
  have hwh : IntKind.i64.wrap (r.height : Int) = r.height := by have := hk1.height; rw [IntKind.wrap_i64]; omega
  obtain ⟨s0, hs0⟩ : ∃ s, s = bL (leB r.br.toNat 1) := ⟨_, rfl⟩
  have q0 : s0.size = 1 := by rw [hs0, bL_size, leB_length]
  have H0 := Lib.hid (show ∀ y : World, Calls Try.prog 23 #[.int .i64 r.br, .int .i64 1] y (fun e w' => e = .returned (.string s0) ∧ Below y.heap.size y w') from fun y => by rw [hs0]; exact recnum_any r.br 1 g1 hk1.br.2 (.inl rfl) y)
  obtain ⟨s1, hs1⟩ : ∃ s, s = bL (leB r.tag 2) := ⟨_, rfl⟩
  have q1 : s1.size = 2 := by rw [hs1, bL_size, leB_length]
  have H1 := Lib.hid (show ∀ y : World, Calls Try.prog 23 #[.int .i64 (r.tag : Int), .int .i64 2] y (fun e w' => e = .returned (.string s1) ∧ Below y.heap.size y w') from fun y => by rw [hs1]; exact recnum_any (r.tag : Int) 2 (by omega) (by have := hk1.tag; omega) (.inr (.inl rfl)) y)
  obtain ⟨s2, hs2⟩ : ∃ s, s = bL (leB r.delay 2) := ⟨_, rfl⟩
  have q2 : s2.size = 2 := by rw [hs2, bL_size, leB_length]
  have H2 := Lib.hid (show ∀ y : World, Calls Try.prog 23 #[.int .i64 (r.delay : Int), .int .i64 2] y (fun e w' => e = .returned (.string s2) ∧ Below y.heap.size y w') from fun y => by rw [hs2]; exact recnum_any (r.delay : Int) 2 (by omega) (by have := hk1.delay; omega) (.inr (.inl rfl)) y)
  obtain ⟨s3, hs3⟩ : ∃ s, s = bL (leB r.height 4) := ⟨_, rfl⟩
  have q3 : s3.size = 4 := by rw [hs3, bL_size, leB_length]
  have H3 := Lib.hid (show ∀ y : World, Calls Try.prog 23 #[.int .i64 (r.height : Int), .int .i64 4] y (fun e w' => e = .returned (.string s3) ∧ Below y.heap.size y w') from fun y => by rw [hs3]; exact recnum_any (r.height : Int) 4 (by omega) (by have := hk1.height; omega) (.inr (.inr (.inl rfl))) y)
  obtain ⟨s4, hs4⟩ : ∃ s, s = bL (leB r.dead.toNat 4) := ⟨_, rfl⟩
  have q4 : s4.size = 4 := by rw [hs4, bL_size, leB_length]
  have H4 := Lib.hid (show ∀ y : World, Calls Try.prog 23 #[.int .i64 r.dead, .int .i64 4] y (fun e w' => e = .returned (.string s4) ∧ Below y.heap.size y w') from fun y => by rw [hs4]; exact recnum_any r.dead 4 g2 hk1.dead.2 (.inr (.inr (.inl rfl))) y)
  obtain ⟨s5, hs5⟩ : ∃ s, s = bL (leB r.budget.toNat 8) := ⟨_, rfl⟩
  have q5 : s5.size = 8 := by rw [hs5, bL_size, leB_length]
  have H5 := Lib.hid (show ∀ y : World, Calls Try.prog 23 #[.int .i64 r.budget, .int .i64 8] y (fun e w' => e = .returned (.string s5) ∧ Below y.heap.size y w') from fun y => by rw [hs5]; exact recnum_any r.budget 8 g3 hk1.budget.2 (.inr (.inr (.inr rfl))) y)
  obtain ⟨s6, hs6⟩ : ∃ s, s = bL (leB r.start.toNat 4) := ⟨_, rfl⟩
  have q6 : s6.size = 4 := by rw [hs6, bL_size, leB_length]
  have H6 := Lib.hid (show ∀ y : World, Calls Try.prog 23 #[.int .i64 r.start, .int .i64 4] y (fun e w' => e = .returned (.string s6) ∧ Below y.heap.size y w') from fun y => by rw [hs6]; exact recnum_any r.start 4 g4 hk1.start.2 (.inr (.inr (.inl rfl))) y)
  have HS := Lib.hid (show s0 ++ s1 ++ s2 ++ s3 ++ s4 ++ s5 ++ s6 = bL (wishL r) from by rw [hs0, hs1, hs2, hs3, hs4, hs5, hs6]; simp only [bL_app]; unfold wishL; simp only [List.append_assoc, List.append_nil])
  clear g1 g2 g3 g4 hk1 hi1 ho1 hn1 hn2 HI HO HK hs0 hs1 hs2 hs3 hs4 hs5 hs6
  go_enter Try.func36, Try.ntmps36
  go_upto_region 2 with fail
  obtain ⟨X, hX⟩ : ∃ q, q = w.heap.size := ⟨_, rfl⟩
  have hnews := new2 w X hX (.cells #[.int .i64 r.kind, .int .i64 r.num, .int .u32 r.tx.ver, .slice ia n1 ic, .slice oa n2 oc, .int .u32 r.tx.lock, .int .i64 r.index, .string r.id, .int .u32 r.idx, .int .i64 r.val, .int .i64 r.br, .int .u16 r.tag, .int .u16 r.delay, .int .u32 r.height, .int .i64 r.dead, .int .i64 r.budget, .int .i64 r.start, .int .i64 r.fee] 38) (.cells #[.string r.id, .int .u32 r.idx, .int .i64 r.val, .int .i64 r.br, .int .u16 r.tag, .int .u16 r.delay, .int .u32 r.height, .int .i64 r.dead] 36)
  rw [← hX]
  generalize ((w.alloc (.cells #[.int .i64 r.kind, .int .i64 r.num, .int .u32 r.tx.ver, .slice ia n1 ic, .slice oa n2 oc, .int .u32 r.tx.lock, .int .i64 r.index, .string r.id, .int .u32 r.idx, .int .i64 r.val, .int .i64 r.br, .int .u16 r.tag, .int .u16 r.delay, .int .u32 r.height, .int .i64 r.dead, .int .i64 r.budget, .int .i64 r.start, .int .i64 r.fee] 38)).alloc (.cells #[.string r.id, .int .u32 r.idx, .int .i64 r.val, .int .i64 r.br, .int .u16 r.tag, .int .u16 r.delay, .int .u32 r.height, .int .i64 r.dead] 36)) = w0 at *
  obtain ⟨hz0, hz1, hal⟩ := hnews
  have HB := Lib.hid hal
  have x15 : w0.cell? ⟨X, 15, none⟩ = some (.int .i64 r.budget) := cell_at hz0
  have x16 : w0.cell? ⟨X, 16, none⟩ = some (.int .i64 r.start) := cell_at hz0
  have y3 : w0.cell? ⟨X + 1, 3, none⟩ = some (.int .i64 r.br) := cell_at hz1
  have y4 : w0.cell? ⟨X + 1, 4, none⟩ = some (.int .u16 r.tag) := cell_at hz1
  have y5 : w0.cell? ⟨X + 1, 5, none⟩ = some (.int .u16 r.delay) := cell_at hz1
  have y6 : w0.cell? ⟨X + 1, 6, none⟩ = some (.int .u32 r.height) := cell_at hz1
  have y7 : w0.cell? ⟨X + 1, 7, none⟩ = some (.int .i64 r.dead) := cell_at hz1
  clear hz0 hz1 hal hX
  obtain ⟨C, hC⟩ : ∃ C : World → Prop, C = fun w' => Below w0.heap.size w0 w' := ⟨_, rfl⟩
  have kx15 := kin_cell hC x15
  have kx16 := kin_cell hC x16
  have ky3 := kin_cell hC y3
  have ky4 := kin_cell hC y4
  have ky5 := kin_cell hC y5
  have ky6 := kin_cell hC y6
  have ky7 := kin_cell hC y7
  have QQ0 := Lib.hid (kin_call hC fun y h => H0.out y)
  have QQ1 := Lib.hid (kin_call hC fun y h => H1.out y)
  have QQ2 := Lib.hid (kin_call hC fun y h => H2.out y)
  have QQ3 := Lib.hid (kin_call hC fun y h => H3.out y)
  have QQ4 := Lib.hid (kin_call hC fun y h => H4.out y)
  have QQ5 := Lib.hid (kin_call hC fun y h => H5.out y)
  have QQ6 := Lib.hid (kin_call hC fun y h => H6.out y)
  have HC := Lib.hid hC
  clear hC
  refine wp_region_kin C (by kernel_rfl) (by kernel_rfl) (by rw [HC.out]; exact ⟨rfl, rfl, rfl, Nat.le_refl _, fun _ _ => rfl⟩) ?_
  intro hne
  repeat (first | (go_big_quiet_step (first | (rename_i y; go_at_call_of 23 (#[.int .i64 r.br, .int .i64 1] : Array Value); exact Calls.kin (QQ0.out y) (fun w' h => h)) | (rename_i y; go_at_call_of 23 (#[.int .i64 (r.tag : Int), .int .i64 2] : Array Value); exact Calls.kin (QQ1.out y) (fun w' h => h)) | (rename_i y; go_at_call_of 23 (#[.int .i64 (r.delay : Int), .int .i64 2] : Array Value); exact Calls.kin (QQ2.out y) (fun w' h => h)) | (rename_i y; go_at_call_of 23 (#[.int .i64 (r.height : Int), .int .i64 4] : Array Value); exact Calls.kin (QQ3.out y) (fun w' h => h)) | (rename_i y; go_at_call_of 23 (#[.int .i64 r.dead, .int .i64 4] : Array Value); exact Calls.kin (QQ4.out y) (fun w' h => h)) | (rename_i y; go_at_call_of 23 (#[.int .i64 r.budget, .int .i64 8] : Array Value); exact Calls.kin (QQ5.out y) (fun w' h => h)) | (rename_i y; go_at_call_of 23 (#[.int .i64 r.start, .int .i64 4] : Array Value); exact Calls.kin (QQ6.out y) (fun w' h => h)))) | (quiet_step (first | (rename_i y; go_at_call_of 23 (#[.int .i64 r.br, .int .i64 1] : Array Value); exact Calls.kin (QQ0.out y) (fun w' h => h)) | (rename_i y; go_at_call_of 23 (#[.int .i64 (r.tag : Int), .int .i64 2] : Array Value); exact Calls.kin (QQ1.out y) (fun w' h => h)) | (rename_i y; go_at_call_of 23 (#[.int .i64 (r.delay : Int), .int .i64 2] : Array Value); exact Calls.kin (QQ2.out y) (fun w' h => h)) | (rename_i y; go_at_call_of 23 (#[.int .i64 (r.height : Int), .int .i64 4] : Array Value); exact Calls.kin (QQ3.out y) (fun w' h => h)) | (rename_i y; go_at_call_of 23 (#[.int .i64 r.dead, .int .i64 4] : Array Value); exact Calls.kin (QQ4.out y) (fun w' h => h)) | (rename_i y; go_at_call_of 23 (#[.int .i64 r.budget, .int .i64 8] : Array Value); exact Calls.kin (QQ5.out y) (fun w' h => h)) | (rename_i y; go_at_call_of 23 (#[.int .i64 r.start, .int .i64 4] : Array Value); exact Calls.kin (QQ6.out y) (fun w' h => h)))))
  refine wpQuiet_nil ?_
  intro _ hw'
  obtain ⟨kx, hw''⟩ := hw'
  subst hw''
  obtain ⟨w1, hxc⟩ := kx
  rw [HC.out] at hxc
  clear HC hne kx15 kx16 ky3 ky4 ky5 ky6 ky7
  have HB := Lib.hid (HB.out.trans (hxc.mono HB.out.size))
  go_wp2_with fail
  go_ret
  exact ⟨congrArg (fun s => Ending.returned (.string s)) HS.out, HB.out⟩
end Go.Proofs.Ytaooibocknemkaa
end

section
/-
  vint.Get: the program's and the document's. Conditions: the place is in the text.
-/
namespace Go.Proofs.Ytaooibocknemkaa
open Go.RowKit Go.BigFrame
set_option linter.unusedVariables false
set_option linter.unusedSimpArgs false

theorem getN_pt (s : ByteArray) (p k : Nat) : getN s p k = leN (pt s.data.toList p k) := rfl
theorem byteAt_get {s : ByteArray} {p : Nat} (h : p < s.size) : byteAt s.data.toList p = (s[p]'h).toNat := by
  unfold byteAt
  have h1 : p < s.data.toList.length := by rw [data_len]; exact h
  rw [List.getD_eq_getElem?_getD, List.getElem?_eq_getElem h1]
  rfl
theorem kOf_cases (b : Nat) : (kOf b = 0 ∧ b ≠ 253 ∧ b ≠ 254 ∧ b ≠ 255) ∨ (b = 253 ∧ kOf b = 2) ∨ (b = 254 ∧ kOf b = 4) ∨ (b = 255 ∧ kOf b = 8) := by
  unfold kOf
  split
  · exact .inr (.inl ⟨by assumption, rfl⟩)
  · split
    · exact .inr (.inr (.inl ⟨by assumption, rfl⟩))
    · split
      · exact .inr (.inr (.inr ⟨by assumption, rfl⟩))
      · exact .inl ⟨rfl, by assumption, by assumption, by assumption⟩
theorem kOf_ok {b : Nat} (h : kOf b ≠ 0) : okSize (kOf b) := by
  unfold okSize
  rcases kOf_cases b with h1 | h1 | h1 | h1 <;> omega
theorem kOf_le (b : Nat) : kOf b ≤ 8 := by rcases kOf_cases b with h1 | h1 | h1 | h1 <;> omega
theorem getN_lt {s : ByteArray} {p k : Nat} (hk : k ≤ 8) : getN s p k < 18446744073709551616 := by
  have h := leN_lt ((s.data.toList.drop p).take k)
  have h2 : ((s.data.toList.drop p).take k).length ≤ k := by rw [List.length_take]; omega
  have h3 : (256 : Nat) ^ ((s.data.toList.drop p).take k).length ≤ 256 ^ 8 := Nat.pow_le_pow_right (by omega) (by omega)
  unfold getN
  omega
set_option maxHeartbeats 1000000 in
theorem vsize_any (b : Nat) (w : World) : Calls Try.prog 52 #[.int .u8 b] w fun e w' => e = .returned (.int .i64 (kOf b)) ∧ w = w' := by
  rcases kOf_cases b with ⟨h, h1, h2, h3⟩ | ⟨rfl, h⟩ | ⟨rfl, h⟩ | ⟨rfl, h⟩
  · have e1 : ((b : Int) == 253) = false := by rw [beq_eq_false_iff_ne]; omega
    have e2 : ((b : Int) == 254) = false := by rw [beq_eq_false_iff_ne]; omega
    have e3 : ((b : Int) == 255) = false := by rw [beq_eq_false_iff_ne]; omega
    rw [h]
    clear h h1 h2 h3
    go_enter Try.func52, Try.ntmps52
    go_wp2
    go_ret
    exact ⟨rfl, rfl⟩
  all_goals
    go_enter Try.func52, Try.ntmps52
    go_wp2
    go_ret
    exact ⟨rfl, rfl⟩
def VIs (r : Nat × Nat × Int) (w : World) (e : Ending) (w' : World) : Prop := e = .returned (.tuple #[.int .u64 r.1, .int .i64 r.2.1, .int .i64 r.2.2]) ∧ Below w.heap.size w w'
theorem ret_v {a b : Nat} {c : Int} {r : Nat × Nat × Int} (h : r = (a, b, c)) : Ending.returned (.tuple #[.int .u64 a, .int .i64 b, .int .i64 c]) = .returned (.tuple #[.int .u64 r.1, .int .i64 r.2.1, .int .i64 r.2.2]) := by rw [h]

set_option maxRecDepth 100000 in
set_option maxHeartbeats 2000000 in
theorem vget_any (s : ByteArray) (p : Nat) (w : World) (hs : s.size ≤ 9223372036854775000) (hp : p ≤ s.size) : Calls Try.prog 43 #[.string s, .int .i64 p] w (VIs (vgetL s.data.toList p) w) := by
  have hp0 : (0 : Int) ≤ (p : Int) := by omega
  have hp1 : (p : Int) ≤ (s.size : Int) := by omega
  have hln := data_len s
  by_cases hpe : p = s.size
  · have HF := Lib.hid (show vgetL s.data.toList p = (0, 0, 5) by unfold vgetL; rw [if_pos (by omega)])
    have HB0 := Lib.hid (Below.refl w.heap.size w)
    have hpi : (p : Int) = (s.size : Int) := by omega
    clear hpe hln
    go_enter Try.func43, Try.ntmps43
    go_wp2_with fail
    exact bodyPost_ret (v := .tuple #[.int .u64 ((0 : Nat)), .int .i64 ((0 : Nat)), .int .i64 5]) (by simp [results, Try.results43, go_sem]) rfl ⟨ret_v HF.out, HB0.out⟩
  · have hlt : p < s.size := by omega
    have hlt2 : (p : Int) < (s.size : Int) := by omega
    have hne : (p : Int) ≠ (s.size : Int) := by omega
    have HBA := Lib.hid (byteAt_get hlt)
    obtain ⟨b, hb⟩ : ∃ b, (s[p]'hlt).toNat = b := ⟨_, rfl⟩
    have hb8 : b < 256 := by rw [← hb]; exact UInt8.toNat_lt _
    have HB := Lib.hid (show byteAt s.data.toList p = b from HBA.out.trans hb)
    have HK := Lib.hid (kOf_ok (b := b))
    have hk8 := kOf_le b
    obtain ⟨k, hk⟩ : ∃ k, k = kOf b := ⟨_, rfl⟩
    have HSZ := Lib.hid (fun y => vsize_any b y)
    rw [← hk] at HSZ HK hk8
    have HKB := Lib.hid hk.symm
    have HV := Lib.hid (show vgetL s.data.toList p = if s.size < p + 1 + k then (0, 0, 5) else if (vintL (if k = 0 then b else getN s (p + 1) k)).length = 1 + k then (if k = 0 then b else getN s (p + 1) k, p + 1 + k, 0) else (0, 0, 4) by
      unfold vgetL vnum
      rw [if_neg (by omega), HB.out, HKB.out, hln]
      rfl)
    clear hk hln hpe HBA
    by_cases hk0 : k = 0
    · subst hk0
      have HV := Lib.hid (HV.out.trans (if_neg (by omega)))
      rw [if_pos rfl] at HV
      have HP := Lib.hid (fun y => vput_any b (by omega) y)
      have hvl := bL_size (vintL b)
      have hv9 := vintL_le b
      generalize hvs : bL (vintL b) = vs at *
      by_cases hz : (vintL b).length = 1 + 0
      · have HF := Lib.hid (HV.out.trans (if_pos hz))
        have hzz : (vs.size : Int) = 1 := by omega
        have HP := Lib.hid (show ∀ y : World, Calls Try.prog 35 #[.int .u64 b] y fun e w' => e = .returned (.string vs) ∧ Below y.heap.size y w' from fun y => hvs ▸ HP.out y)
        clear hz hvl hv9 hvs
        go_enter Try.func43, Try.ntmps43
        go_wp2_with fail
        refine (HSZ.out w).mono ?_
        rintro e w' ⟨rfl, rfl⟩
        go_wp2_with fail
        refine (HP.out w).mono ?_
        rintro e w' ⟨rfl, hb⟩
        have HB0 := Lib.hid hb
        clear hb
        go_wp2_with fail
        exact bodyPost_ret (v := .tuple #[.int .u64 (b), .int .i64 (((p + 1 : Nat) : Int)), .int .i64 0]) (by simp [results, Try.results43, go_sem]) rfl ⟨ret_v HF.out, HB0.out⟩
      · have HF := Lib.hid (HV.out.trans (if_neg hz))
        have hzz : ¬ (vs.size : Int) = 1 := by omega
        have HP := Lib.hid (show ∀ y : World, Calls Try.prog 35 #[.int .u64 b] y fun e w' => e = .returned (.string vs) ∧ Below y.heap.size y w' from fun y => hvs ▸ HP.out y)
        clear hz hvl hv9 hvs
        go_enter Try.func43, Try.ntmps43
        go_wp2_with fail
        refine (HSZ.out w).mono ?_
        rintro e w' ⟨rfl, rfl⟩
        go_wp2_with fail
        refine (HP.out w).mono ?_
        rintro e w' ⟨rfl, hb⟩
        have HB0 := Lib.hid hb
        clear hb
        go_wp2_with fail
        exact bodyPost_ret (v := .tuple #[.int .u64 ((0 : Nat)), .int .i64 ((0 : Nat)), .int .i64 4]) (by simp [results, Try.results43, go_sem]) rfl ⟨ret_v HF.out, HB0.out⟩
    · have hk1 : (0 : Int) < (k : Int) := by omega
      have hok := HK.out hk0
      simp only [if_neg hk0] at HV
      by_cases hin : s.size < p + 1 + k
      · have HF := Lib.hid (HV.out.trans (if_pos hin))
        have HG := Lib.hid (fun y => get_no s ((p : Int) + 1) k hok (by omega) (.inr (by omega)) y)
        clear HV HK hok hin
        go_enter Try.func43, Try.ntmps43
        go_wp2_with fail
        refine (HSZ.out w).mono ?_
        rintro e w' ⟨rfl, rfl⟩
        go_wp2_with fail
        refine (HG.out w).mono ?_
        rintro e w' ⟨rfl, hb⟩
        have HB0 := Lib.hid hb
        clear hb
        go_wp2_with fail
        exact bodyPost_ret (v := .tuple #[.int .u64 ((0 : Nat)), .int .i64 ((0 : Nat)), .int .i64 5]) (by simp [results, Try.results43, go_sem]) rfl ⟨ret_v HF.out, HB0.out⟩
      · have HV := Lib.hid (HV.out.trans (if_neg hin))
        have hgl := getN_lt (s := s) (p := p + 1) hk8
        have HG := Lib.hid (show ∀ y : World, Calls Try.prog 19 #[.string s, .int .i64 ((p : Int) + 1), .int .i64 k] y fun e w'' => e = .returned (.tuple #[.int .u64 (getN s (p + 1) k), .bool true]) ∧ Below y.heap.size y w'' from fun y => get_yes s (p + 1) k hok (by omega) (by omega) y)
        have hin2 : (p : Int) + 1 + k ≤ (s.size : Int) := by omega
        clear hin hok HK
        generalize getN s (p + 1) k = n at *
        have HP := Lib.hid (fun y => vput_any n hgl y)
        have hvl := bL_size (vintL n)
        have hv9 := vintL_le n
        generalize hvs : bL (vintL n) = vs at *
        have HP := Lib.hid (show ∀ y : World, Calls Try.prog 35 #[.int .u64 n] y fun e w' => e = .returned (.string vs) ∧ Below y.heap.size y w' from fun y => hvs ▸ HP.out y)
        by_cases hz : (vintL n).length = 1 + k
        · have HF := Lib.hid (HV.out.trans (if_pos hz))
          have hzz : (vs.size : Int) = 1 + k := by omega
          have hcmp : ((1 + (k : Int)) != (p : Int) + 1 + k - p) = false := by rw [bne_eq_false_iff_eq]; omega
          clear hz hvl hv9 hvs
          go_enter Try.func43, Try.ntmps43
          go_wp2_with fail
          refine (HSZ.out w).mono ?_
          rintro e w' ⟨rfl, rfl⟩
          go_wp2_with fail
          refine (HG.out w).mono ?_
          rintro e w1 ⟨rfl, hb⟩
          have HB1 := Lib.hid hb
          clear hb
          go_wp2_with fail
          refine (HP.out w1).mono ?_
          rintro e w' ⟨rfl, hb⟩
          have HB0 := Lib.hid (HB1.out.trans (hb.mono HB1.out.size))
          clear hb
          go_wp2_with fail
          exact bodyPost_ret (v := .tuple #[.int .u64 (n), .int .i64 (((p + 1 + k : Nat) : Int)), .int .i64 0]) (by simp [results, Try.results43, go_sem]) rfl ⟨ret_v HF.out, HB0.out⟩
        · have HF := Lib.hid (HV.out.trans (if_neg hz))
          have hcmp : ((vs.size : Int) != (p : Int) + 1 + k - p) = true := by rw [bne_iff_ne]; omega
          clear hz hvl hv9 hvs
          go_enter Try.func43, Try.ntmps43
          go_wp2_with fail
          refine (HSZ.out w).mono ?_
          rintro e w' ⟨rfl, rfl⟩
          go_wp2_with fail
          refine (HG.out w).mono ?_
          rintro e w1 ⟨rfl, hb⟩
          have HB1 := Lib.hid hb
          clear hb
          go_wp2_with fail
          refine (HP.out w1).mono ?_
          rintro e w' ⟨rfl, hb⟩
          have HB0 := Lib.hid (HB1.out.trans (hb.mono HB1.out.size))
          clear hb
          go_wp2_with fail
          exact bodyPost_ret (v := .tuple #[.int .u64 ((0 : Nat)), .int .i64 ((0 : Nat)), .int .i64 4]) (by simp [results, Try.results43, go_sem]) rfl ⟨ret_v HF.out, HB0.out⟩
end Go.Proofs.Ytaooibocknemkaa
end
