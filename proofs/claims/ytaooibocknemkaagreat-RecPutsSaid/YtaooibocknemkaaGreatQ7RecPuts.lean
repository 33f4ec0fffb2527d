/-
  RecPuts, part 7: the texts Wd, Ed, Ee, Ek, We, EF3a, EF3b, one after another. Conditions: none beyond those named at each.
-/
import Derived.Test.YtaooibocknemkaaGreatWc
import Derived.Test.YtaooibocknemkaaGreatQ6RecPuts
import Derived.Test.YtaooibocknemkaaGreatQ4RecPuts
section
namespace Go.Proofs.YtaooibocknemkaaGreat
open Go.RowKit Go.BigFrame
set_option linter.unusedVariables false
set_option linter.unusedSimpArgs false

/-- The predicate's contract, wherever the call stands. -/
def PredWit (w : World) (p : PIn → Bool) : Prop :=
  ∀ (w' : World) (v : Value) (x : PIn), Below w.heap.size w w' → InAt w' v x → Calls Tryz.prog 128 #[v] w' fun e w'' => e = .returned (.bool (p x)) ∧ Below w'.heap.size w' w''
set_option maxRecDepth 100000 in
set_option maxHeartbeats 2000000 in
theorem idxWit (v : Value) (xs : List PIn) (p : PIn → Bool) (w : World) (hv : SlAt rpIn w v xs) (hp : PredWit w p) :
    Calls Tryz.prog 163 #[v, .func (.func 128) #[] #[]] w fun e w' => (∃ n : Int, e = .returned (.int .i64 n) ∧ IdxIs p xs n) ∧ Below w.heap.size w w' := by
  obtain ⟨a, c, rfl, hl1, hl2⟩ := hv.shape
  rw [maxLen_eq] at hl2
  obtain ⟨n, hn⟩ : ∃ n, n = xs.length := ⟨_, rfl⟩
  rw [← hn] at hv hl1 ⊢
  have HN := Lib.hid hn
  have HP := Lib.hid hp
  clear hn hp
  go_enter Tryz.func163, Tryz.ntmps163
  go_wp2_with fail
  go_loopw [5, 8] (fun _ i wr => ∃ k : Nat, k ≤ n ∧ i = .int .i64 k ∧ Below w.heap.size w wr ∧ ∀ (j : Nat) (y : PIn), j < k → xs[j]? = some y → p y = false) (fun _ i _ => n - (intOf i).toNat)
  case atStart => exact ⟨0, Nat.zero_le _, rfl, Below.refl _ _, fun j x hj => absurd hj (Nat.not_lt_zero _)⟩
  case round =>
    rename World => wo
    obtain ⟨k, hk, rfl, hbw, hsame⟩ := hrel
    have HS := Lib.hid hsame
    have HW := Lib.hid hbw
    by_cases hlt : k < n
    · obtain ⟨b, o, x, wv, rfl, hx, hseq, hidx, hid, hwv, d0, d1, d2, d3⟩ := (hv.mono (below_cells hbw)).inp hlt
      have hc := HP.out wo (.agg #[.string x.id, .int .u32 x.idx, .int .u32 x.seq, wv]) x hbw ⟨wv, rfl, hwv, hidx, hseq, hid⟩
      have HX := Lib.hid hx
      obtain ⟨wa, wc, rfl, -, -⟩ := hwv.shape
      clear hx hseq hwv hbw hsame hv hidx hid
      cases hpx : p x
      · rw [hpx] at hc
        have HC := Lib.hid hc
        have HNX := Lib.hid (before_step HS.out HX.out hpx)
        clear hc hpx
        go_wp2_with fail
        refine HC.out.mono ?_
        rintro e w1 ⟨rfl, hb1⟩
        have HB1 := Lib.hid (HW.out.trans (hb1.mono HW.out.size))
        clear hb1
        go_wp2
        go_roundw
        case rel => exact ⟨k + 1, by omega, by go_num, HB1.out, HNX.out⟩
        case measure => simp [intOf]; omega
      · rw [hpx] at hc
        have HC := Lib.hid hc
        have HFN := Lib.hid (show IdxIs p xs (k : Int) from .inr ⟨k, x, rfl, HX.out, hpx, HS.out⟩)
        clear hc hpx
        go_wp2_with fail
        refine HC.out.mono ?_
        rintro e w1 ⟨rfl, hb1⟩
        have HB1 := Lib.hid (HW.out.trans (hb1.mono HW.out.size))
        clear hb1
        go_wp2
        go_ret
        exact ⟨⟨_, rfl, HFN.out⟩, HB1.out⟩
    · obtain rfl : k = n := by omega
      have HF := Lib.hid (any_no HN.out hsame)
      clear hsame hbw hv
      go_wp2
      go_ret
      exact ⟨⟨_, rfl, .inl ⟨rfl, HF.out⟩⟩, HW.out⟩
set_option maxHeartbeats 2000000 in
theorem conWit (v : Value) (xs : List PIn) (p : PIn → Bool) (w : World) (hv : SlAt rpIn w v xs) (hp : PredWit w p) :
    Calls Tryz.prog 127 #[v, .func (.func 128) #[] #[]] w fun e w' => e = .returned (.bool (xs.any p)) ∧ Below w.heap.size w w' := by
  have HI := Lib.hid (idxWit v xs p w hv hp)
  obtain ⟨a, c, rfl, hl1, hl2⟩ := hv.shape
  clear hv hl1 hl2 hp
  generalize xs.length = n at *
  go_enter Tryz.func127, Tryz.ntmps127
  go_wp2_with fail
  refine HI.out.mono ?_
  rintro e w1 ⟨⟨m, rfl, hm⟩, hb1⟩
  have HM := Lib.hid hm.any
  clear hm
  go_wp2
  go_ret
  exact ⟨ret_bool HM.out, hb1⟩



set_option maxRecDepth 100000 in
set_option maxHeartbeats 1000000 in
theorem wit1_any (v : Value) (x : PIn) (w : World) (hv : InAt w v x) : Calls Tryz.prog 128 #[v] w fun e w' => e = .returned (.bool (decide (0 < x.wit.length))) ∧ Below w.heap.size w w' := by
  obtain ⟨wv, rfl, hw, -, -, -⟩ := hv
  obtain ⟨a, c, rfl, h1, h2⟩ := hw.shape
  clear hw
  rw [maxLen_eq] at h2
  generalize x.wit.length = n at *
  go_enter Tryz.func128, Tryz.ntmps128
  go_wp2
  go_ret
  exact ⟨ret_bool (by first | (simp; done) | (simp; omega)), (Below.refl _ _).alloc (Nat.le_refl _) _⟩
set_option maxRecDepth 100000 in
set_option maxHeartbeats 1000000 in
theorem witnessed_any (v : Value) (t : PTx) (w : World) (hv : TxAt w v t) : Calls Tryz.prog 97 #[v] w (BIs (witOf t) w) := by
  obtain ⟨va, vo, rfl, hia, hob, -, -⟩ := hv
  obtain ⟨a, c, rfl, hl1, hl2⟩ := hia.shape
  obtain ⟨a', c', rfl, hl1', hl2'⟩ := hob.shape
  rw [maxLen_eq] at hl2 hl2'
  have HTB := Lib.hid (TB.start hia hob)
  clear hia hob
  go_enter Tryz.func97, Tryz.ntmps97
  have HCON := Lib.hid (conWit _ t.ins (fun x => decide (0 < x.wit.length)) _ HTB.out.ins (fun w' v' y hb hy => wit1_any v' y w' hy))
  have HW := Lib.hid (show witOf t = t.ins.any fun x => decide (0 < x.wit.length) from rfl)
  have HB := Lib.hid HTB.out.bel
  have c1 : (w.alloc (.cells #[.int .u32 t.ver, .slice a t.ins.length c, .slice a' t.outs.length c', .int .u32 t.lock] 26)).cell? ⟨w.heap.size, 1, none⟩ = some (.slice a t.ins.length c) := cell_at HTB.out.box
  clear HTB
  generalize witOf t = wt at *
  generalize (t.ins.any fun x => decide (0 < x.wit.length)) = bb at *
  generalize t.ins.length = n at *
  generalize t.outs.length = n' at *
  go_upto_region 1 with fail
  generalize w.alloc (.cells #[.int .u32 t.ver, .slice a n c, .slice a' n' c', .int .u32 t.lock] 26) = w0 at *
  go_wp2_with fail
  refine HCON.out.mono ?_
  rintro e w' ⟨rfl, hb⟩
  have HB2 := Lib.hid (HB.out.trans (hb.mono HB.out.size))
  clear hb
  go_wp2_with fail
  go_ret
  exact ⟨ret_bool HW.out.symm, HB2.out⟩

theorem witsL_le {t : PTx} (he : Enc t) (b : Bool) : (witsL b t.ins).length ≤ 110000 := by
  have h2 := flat_le witB 400 t.ins fun x hx => witB_le (he.ids x hx).2
  have h3 := he.ins
  unfold witsL
  split
  · omega
  · simp
/-- It returns this text and this error, and makes new blocks alone. -/
def TIs (s : ByteArray) (c : Int) (w : World) (e : Ending) (w' : World) : Prop := e = .returned (.tuple #[.string s, .int .i64 c]) ∧ Below w.heap.size w w'
noncomputable def encE (t : PTx) (b : Bool) : ByteArray := if checkOf t = 0 then bL (encL t b) else bL []

set_option maxRecDepth 100000 in
set_option maxHeartbeats 2000000 in
theorem wenc_any (v : Value) (t : PTx) (w : World) (hv : TxAt w v t) (hlen : t.outs.length ≤ 1000) : Calls Tryz.prog 68 #[v] w (TIs (encE t (witOf t)) (checkOf t) w) := by
  obtain ⟨va, vo, rfl, hia, hob, hv1, hv2⟩ := hv
  obtain ⟨a, c, rfl, hl1, hl2⟩ := hia.shape
  obtain ⟨a', c', rfl, hl1', hl2'⟩ := hob.shape
  have HTB := Lib.hid (TB.start hia hob)
  have HV := Lib.hid (And.intro hv1 hv2)
  have HO := Lib.hid hlen
  clear hia hob hv1 hv2 hl1 hl2 hl1' hl2' hlen
  obtain ⟨r, hr⟩ : ∃ r, r = encE t (witOf t) := ⟨_, rfl⟩
  rw [← hr]
  unfold encE at hr
  have HR := Lib.hid hr
  clear hr
  go_enter Tryz.func68, Tryz.ntmps68
  go_upto_region 1 with fail
  obtain ⟨n, hn⟩ : ∃ n, n = t.ins.length := ⟨_, rfl⟩
  obtain ⟨n', hn'⟩ : ∃ n, n = t.outs.length := ⟨_, rfl⟩
  rw [← hn, ← hn'] at HTB
  rw [← hn, ← hn']
  clear hn hn'
  generalize w.alloc (.cells #[.int .u32 t.ver, .slice a n c, .slice a' n' c', .int .u32 t.lock] 26) = w0 at *
  have c0 : w0.cell? ⟨w.heap.size, 0, none⟩ = some (.int .u32 t.ver) := cell_at HTB.out.box
  have c1 : w0.cell? ⟨w.heap.size, 1, none⟩ = some (.slice a n c) := cell_at HTB.out.box
  have c2 : w0.cell? ⟨w.heap.size, 2, none⟩ = some (.slice a' n' c') := cell_at HTB.out.box
  have c3 : w0.cell? ⟨w.heap.size, 3, none⟩ = some (.int .u32 t.lock) := cell_at HTB.out.box
  have HCK := Lib.hid (check_any _ t w0 (HTB.out.tx HV.out) HO.out)
  by_cases hc : checkOf t = 0
  · have HC0 := Lib.hid hc
    have HR2 := Lib.hid (show r = bL (encL t (witOf t)) from HR.out.trans (if_pos hc))
    rw [hc] at HCK
    clear hc HR
    go_wp2_with fail
    refine (HCK.out).mono ?_
    rintro e w1 ⟨rfl, hb⟩
    replace c0 := below_cells hb _ _ c0
    replace c1 := below_cells hb _ _ c1
    replace c2 := below_cells hb _ _ c2
    replace c3 := below_cells hb _ _ c3
    have HTB := Lib.hid (HTB.out.next hb)
    clear hb
    go_wp2_with fail
    obtain ⟨C, hC⟩ : ∃ C : World → Prop, C = fun w' => Below w1.heap.size w1 w' := ⟨_, rfl⟩
    have kc0 := kin_cell hC c0
    have kc1 := kin_cell hC c1
    have kc2 := kin_cell hC c2
    have kc3 := kin_cell hC c3
    have QW := Lib.hid (kin_call hC fun y h => witnessed_any _ t y ((HTB.out.tx HV.out).below h))
    have QE := Lib.hid (kin_call hC fun y h => encode_any _ t (witOf t) y ((HTB.out.tx HV.out).below h) (enc_of (whole_of HC0.out)))
    have HC := Lib.hid hC
    clear hC
    refine wp_region_kin C (by kernel_rfl) (by kernel_rfl) (by rw [HC.out]; exact ⟨rfl, rfl, rfl, Nat.le_refl _, fun _ _ => rfl⟩) ?_
    intro hne
    repeat (first | (go_big_quiet_step (first | (rename_i y; go_at_call 97; exact Calls.kin (QW.out y) (fun w' h => h)) | (rename_i y; go_at_call 96; exact Calls.kin (QE.out y) (fun w' h => h)))) | (quiet_step (first | (rename_i y; go_at_call 97; exact Calls.kin (QW.out y) (fun w' h => h)) | (rename_i y; go_at_call 96; exact Calls.kin (QE.out y) (fun w' h => h)))))
    refine wpQuiet_nil ?_
    intro _ hw'
    obtain ⟨kx, hw''⟩ := hw'
    subst hw''
    obtain ⟨w2, hxc⟩ := kx
    rw [HC.out] at hxc
    clear HC hne kc0 kc1 kc2 kc3
    have HB := Lib.hid (HTB.out.bel.trans (hxc.mono HTB.out.bel.size))
    clear hxc
    go_wp2_with fail
    exact bodyPost_ret (v := .tuple #[.string (bL (encL t (witOf t))), .int .i64 0]) (by simp [results, Tryz.results68, go_sem]) rfl ⟨by rw [HR2.out, HC0.out], HB.out⟩
  · have HR2 := Lib.hid (show r = bL [] from HR.out.trans (if_neg hc))
    clear HR
    have hc0 := hc
    generalize checkOf t = ck at *
    have hne : (ck == 0) = false := by simpa using hc0
    go_wp2_with fail
    refine (HCK.out).mono ?_
    rintro e w1 ⟨rfl, hb⟩
    have HTB := Lib.hid (HTB.out.next hb)
    clear hb
    have HB := Lib.hid HTB.out.bel
    go_wp2_with fail
    exact bodyPost_ret (v := .tuple #[.string ⟨#[]⟩, .int .i64 ck]) (by simp [results, Tryz.results68, go_sem]) rfl ⟨by rw [HR2.out]; rfl, HB.out⟩

end Go.Proofs.YtaooibocknemkaaGreat
end

section
namespace Go.Proofs.YtaooibocknemkaaGreat
open Go.RowKit
set_option linter.unusedVariables false
set_option linter.unusedSimpArgs false

structure TxN (t : PTx) : Prop where
  ver : t.ver < 4294967296
  lock : t.lock < 4294967296
  ins : ∀ x ∈ t.ins, x.idx < 4294967296 ∧ x.seq < 4294967296
theorem okP_txN {t : PTx} (h : checkOf t = 0) (hn : TxN t) : OkP t := by
  have hw := whole_of h
  have he := enc_of hw
  have hc := (counts_parts hw.counts).1
  refine ⟨hn.ver, hn.lock, ⟨hc.1, hc.2.1⟩, ⟨hc.2.2.1, hc.2.2.2⟩, fun x hx => ⟨⟨(he.ids x hx).1, hn.ins x hx⟩, ⟨⟨Nat.zero_le _, (he.ids x hx).2.1⟩, (he.ids x hx).2.2⟩⟩, fun x hx => he.vals x hx⟩
theorem encL_tight {t : PTx} (he : Enc t) (b : Bool) : (encL t b).length ≤ 150000 := by
  have h0 := witsL_le he b
  have h1 := vintL_le t.ins.length
  have h2 := vintL_le t.outs.length
  have h3 := flat_le inB 60 t.ins fun x hx => inB_le (he.ids x hx).1
  have h4 := flat_le outB 60 t.outs fun x hx => outB_le (he.vals x hx).2
  have h5 : (markL b).length ≤ 2 := by unfold markL; split <;> simp
  have h6 := he.ins
  have h7 := he.outs
  unfold encL
  simp only [List.length_append, leB_length]
  omega
theorem txL_len {t : PTx} (h : checkOf t = 0) : (txL t).length ≤ 150000 := encL_tight (enc_of (whole_of h)) _

noncomputable def wishP (r : PRec) (x : RdS) : RdS × PRec :=
  ((numI 4 (numI 8 (numI 4 (numR 4 (numR 2 (numR 2 (numI 1 x).1).1).1).1).1).1).1,
    { r with br := (numI 1 x).2, tag := (numR 2 (numI 1 x).1).2, delay := (numR 2 (numR 2 (numI 1 x).1).1).2, height := (numR 4 (numR 2 (numR 2 (numI 1 x).1).1).1).2,
             dead := (numI 4 (numR 4 (numR 2 (numR 2 (numI 1 x).1).1).1).1).2, budget := (numI 8 (numI 4 (numR 4 (numR 2 (numR 2 (numI 1 x).1).1).1).1).1).2,
             start := (numI 4 (numI 8 (numI 4 (numR 4 (numR 2 (numR 2 (numI 1 x).1).1).1).1).1).1).2 })
def pointP (r : PRec) (x : RdS) : RdS × PRec := ((numR 4 (takeR 32 x).1).1, { r with id := bL (takeR 32 x).2, idx := (numR 4 (takeR 32 x).1).2 })
noncomputable def bodyP (r : PRec) (x : RdS) : RdS × PRec :=
  if r.kind = 1 then wishP { r with tx := (txR x).2, index := (numI 2 (txR x).1).2 } (numI 2 (txR x).1).1
  else if r.kind = 2 then wishP { (pointP r x).2 with val := (numI 8 (pointP r x).1).2 } (numI 8 (pointP r x).1).1
  else if r.kind = 3 then pointP r x
  else if r.kind = 4 then ((numI 8 (numI 2 (pointP r x).1).1).1, { (pointP r x).2 with index := (numI 2 (pointP r x).1).2, fee := (numI 8 (numI 2 (pointP r x).1).1).2 })
  else (x, r)
def headR (l : List UInt8) : PRec := { noRec with kind := (numI 1 ⟨l, true⟩).2, num := (numI 4 (numI 1 ⟨l, true⟩).1).2 }
def headS (l : List UInt8) : RdS := (numI 4 (numI 1 ⟨l, true⟩).1).1
noncomputable def parseP (l : List UInt8) : RdS × PRec := bodyP (headR l) (headS l)

/-! ### there -/
theorem wish_back {r : PRec} (r0 : PRec) (m : List UInt8) (hb : 0 ≤ r.br ∧ r.br ≤ 2) (ht : r.tag < 65536) (hd : r.delay < 65536) (hh : r.height ≤ 1000000) (he : 0 ≤ r.dead ∧ r.dead ≤ 1000000) (hs : 0 ≤ r.start ∧ r.start ≤ 1000000) (hg : money r.budget) :
    wishP r0 ⟨wishL r, true⟩ = (⟨[], true⟩, { r0 with br := r.br, tag := r.tag, delay := r.delay, height := r.height, dead := r.dead, budget := r.budget, start := r.start }) := by
  have p1 : (256 : Nat) ^ 1 = 256 := rfl
  have p2 : (256 : Nat) ^ 2 = 65536 := rfl
  have p4 : (256 : Nat) ^ 4 = 4294967296 := rfl
  have p8 : (256 : Nat) ^ 8 = 18446744073709551616 := rfl
  obtain ⟨g1, g2⟩ := hg
  unfold wishP wishL
  rw [numI_back hb.1 (by omega) (by omega)]
  dsimp only
  rw [numR_back (by omega)]
  dsimp only
  rw [numR_back (by omega)]
  dsimp only
  rw [numR_back (by omega)]
  dsimp only
  rw [numI_back he.1 (by omega) (by omega)]
  dsimp only
  rw [numI_back g1 (by omega) (by omega)]
  dsimp only
  rw [numI_back hs.1 (by omega) (by omega)]
theorem point_back {r : PRec} (r0 : PRec) (m : List UInt8) (hi : r.id.size = 32) (hx : r.idx < 4294967296) : pointP r0 ⟨pointL r m, true⟩ = (⟨m, true⟩, { r0 with id := r.id, idx := r.idx }) := by
  have p4 : (256 : Nat) ^ 4 = 4294967296 := rfl
  unfold pointP pointL
  rw [takeR_back (by rw [data_len, hi])]
  dsimp only
  rw [numR_back (by omega), bL_data]
structure RecN (r : PRec) : Prop where
  tx : TxN r.tx
  idx : r.idx < 4294967296
  tag : r.tag < 65536
  delay : r.delay < 65536
theorem body_back {r : PRec} (hc : checkR r = 0) (hn : RecN r) : bodyP { noRec with kind := r.kind, num := r.num } ⟨bodyL r, true⟩ = (⟨[], true⟩, r) := by
  obtain ⟨hk, ho, hr⟩ := checkR_zero hc
  have p2 : (256 : Nat) ^ 2 = 65536 := rfl
  have p8 : (256 : Nat) ^ 8 = 18446744073709551616 := rfl
  unfold bodyP bodyL
  dsimp only
  unfold ownR at ho
  by_cases k1 : r.kind = 1
  · rw [if_pos k1] at ho ⊢
    rw [if_pos k1]
    obtain ⟨c1, c2, c3⟩ := hr.com k1
    have hl := txL_len c1
    have hou := (counts_parts (whole_of c1).counts).1.2.2.2
    rw [txR_back (okP_txN c1 hn.tx) c1 (by omega)]
    dsimp only
    rw [numI_back c2 (by omega) (by omega)]
    dsimp only
    rw [wish_back _ [] hr.br hn.tag hn.delay hr.height hr.dead hr.start hr.budget]
    exact Prod.ext rfl ho
  · rw [if_neg k1] at ho ⊢
    rw [if_neg k1]
    by_cases k2 : r.kind = 2
    · rw [if_pos k2] at ho ⊢
      rw [if_pos k2, point_back _ _ (hr.id (by omega) (by omega)) hn.idx]
      dsimp only
      obtain ⟨g1, g2⟩ := hr.val
      rw [numI_back g1 (by omega) (by omega)]
      dsimp only
      rw [wish_back _ [] hr.br hn.tag hn.delay hr.height hr.dead hr.start hr.budget]
      exact Prod.ext rfl ho
    · rw [if_neg k2] at ho ⊢
      rw [if_neg k2]
      by_cases k3 : r.kind = 3
      · rw [if_pos k3] at ho ⊢
        rw [if_pos k3, point_back _ _ (hr.id (by omega) (by omega)) hn.idx]
        exact Prod.ext rfl ho
      · rw [if_neg k3] at ho ⊢
        rw [if_neg k3]
        by_cases k4 : r.kind = 4
        · rw [if_pos k4] at ho ⊢
          rw [if_pos k4, point_back _ _ (hr.id (by omega) (by omega)) hn.idx]
          dsimp only
          obtain ⟨g1, g2⟩ := hr.fee
          have hb := hr.bid k4
          rw [numI_back hb.1 (by omega) (by omega)]
          dsimp only
          rw [numI_back g1 (by omega) (by omega)]
          exact Prod.ext rfl ho
        · rw [if_neg k4] at ho ⊢
          rw [if_neg k4]
          exact Prod.ext rfl ho
theorem parse_back {r : PRec} (hc : checkR r = 0) (hn : RecN r) : parseP (payL r) = (⟨[], true⟩, r) := by
  obtain ⟨hk, ho, hr⟩ := checkR_zero hc
  have p1 : (256 : Nat) ^ 1 = 256 := rfl
  have p4 : (256 : Nat) ^ 4 = 4294967296 := rfl
  have hk1 := hk.1
  have hk2 := hk.2
  have hn1 := hr.num
  unfold parseP headR headS payL
  rw [numI_back (n := r.kind) (by omega) (by omega) (by omega)]
  dsimp only
  rw [numI_back (n := r.num) (by omega) (by omega) (by omega)]
  exact body_back hc hn

/-! ### and back -/
end Go.Proofs.YtaooibocknemkaaGreat
end

section
namespace Go.Proofs.YtaooibocknemkaaGreat
open Go.RowKit
set_option linter.unusedVariables false
set_option linter.unusedSimpArgs false

noncomputable def goodP (l : List UInt8) : Bool := ((parseP l).1.ok && decide ((parseP l).1.t = [])) && decide (checkR (parseP l).2 = 0)
def lenQ (q : List UInt8) : Nat := leN (q.take 4)
def sumQ (q : List UInt8) : Nat := leN ((q.drop 4).take 4)
def payQ (q : List UInt8) : List UInt8 := (q.drop 8).take (lenQ q)
/-- Of what stands from a place on: the record, its bytes' number, the error. -/
noncomputable def getQ (q : List UInt8) : PRec × Nat × Int :=
  if q.length < 8 then (noRec, 0, 5) else if 200000 < lenQ q then (noRec, 0, 20) else if q.length < 8 + lenQ q then (noRec, 0, 5)
  else if ¬ (crcL (payQ q)).toNat = sumQ q then (noRec, 0, 19) else if goodP (payQ q) = false then (noRec, 0, 4) else ((parseP (payQ q)).2, 8 + lenQ q, 0)
noncomputable def getL (l : List UInt8) (p : Nat) : PRec × Nat × Int := ((getQ (l.drop p)).1, if (getQ (l.drop p)).2.2 = 0 then p + (getQ (l.drop p)).2.1 else 0, (getQ (l.drop p)).2.2)
theorem bodyL_le {r : PRec} (hc : checkR r = 0) : (bodyL r).length ≤ 150100 := by
  obtain ⟨hk, ho, hr⟩ := checkR_zero hc
  have hw : (wishL r).length = 25 := by unfold wishL; simp [leB_length]
  have hp : ∀ m, 1 < r.kind → r.kind < 5 → (pointL r m).length = 36 + m.length := fun m h1 h2 => by
    unfold pointL
    rw [List.length_append, List.length_append, data_len, hr.id h1 h2, leB_length]
    omega
  unfold bodyL
  split
  · rename_i k1
    have h1 := txL_len (hr.com k1).1
    have h2 := vintL_le (txL r.tx).length
    simp only [List.length_append, leB_length, hw]
    omega
  · split
    · rw [hp _ (by omega) (by omega), List.length_append, leB_length, hw]; omega
    · split
      · rw [hp _ (by omega) (by omega)]; simp
      · split
        · rw [hp _ (by omega) (by omega)]; simp [leB_length]
        · simp
theorem payL_le {r : PRec} (hc : checkR r = 0) : 5 ≤ (payL r).length ∧ (payL r).length ≤ 150105 := by
  have := bodyL_le hc
  unfold payL
  simp only [List.length_append, leB_length]
  omega
theorem putL_len (r : PRec) : (putL r).length = 8 + (payL r).length := by
  unfold putL
  simp only [List.length_append, leB_length]
  omega
theorem putL_take (r : PRec) (b : List UInt8) : (putL r ++ b).take 4 = leB (payL r).length 4 ∧ ((putL r ++ b).drop 4).take 4 = leB (crcL (payL r)).toNat 4 ∧ (putL r ++ b).drop 8 = payL r ++ b := by
  have h1 := leB_length (payL r).length 4
  have h2 := leB_length (crcL (payL r)).toNat 4
  have e1 : (putL r ++ b).drop 4 = leB (crcL (payL r)).toNat 4 ++ (payL r ++ b) := by
    unfold putL
    rw [List.append_assoc, List.append_assoc, List.drop_append_of_le_length (by omega), show (leB (payL r).length 4).drop 4 = [] from List.drop_of_length_le (by omega)]
    rfl
  refine ⟨?_, ?_, ?_⟩
  · unfold putL
    rw [List.append_assoc, List.take_append_of_le_length (by omega), List.take_of_length_le (by omega)]
  · rw [e1, List.take_append_of_le_length (by omega), List.take_of_length_le (by omega)]
  · rw [show 8 = 4 + 4 from rfl, ← List.drop_drop, e1, List.drop_append_of_le_length (by omega), show (leB (crcL (payL r)).toNat 4).drop 4 = [] from List.drop_of_length_le (by omega)]
    rfl
theorem crc_small (l : List UInt8) : (crcL l).toNat < 256 ^ 4 := (crcL l).isLt
theorem getQ_back {r : PRec} (hc : checkR r = 0) (hn : RecN r) (b : List UInt8) : getQ (putL r ++ b) = (r, (putL r).length, 0) := by
  obtain ⟨t1, t2, t3⟩ := putL_take r b
  have hl := payL_le hc
  have hpl := putL_len r
  have e1 : lenQ (putL r ++ b) = (payL r).length := by unfold lenQ; rw [t1, leN_leB' (by have : (256 : Nat) ^ 4 = 4294967296 := rfl; omega)]
  have e2 : sumQ (putL r ++ b) = (crcL (payL r)).toNat := by unfold sumQ; rw [t2, leN_leB' (crc_small _)]
  have e3 : payQ (putL r ++ b) = payL r := by unfold payQ; rw [t3, e1, List.take_append_of_le_length (by omega), List.take_of_length_le (by omega)]
  have hln : (putL r ++ b).length = (putL r).length + b.length := List.length_append
  have hg : goodP (payL r) = true := by
    unfold goodP
    rw [parse_back hc hn]
    simp [hc]
  unfold getQ
  rw [if_neg (by omega), e1, if_neg (by omega), if_neg (by omega), e3, e2, if_neg (fun h => h rfl), hg, if_neg (by decide), parse_back hc hn, hpl]
theorem get_back {r : PRec} (hc : checkR r = 0) (hn : RecN r) (a b : List UInt8) : getL (a ++ (putL r ++ b)) a.length = (r, a.length + (putL r).length, 0) := by
  unfold getL
  rw [List.drop_left, getQ_back hc hn]
  rfl
end Go.Proofs.YtaooibocknemkaaGreat
end

section
namespace Go.Proofs.YtaooibocknemkaaGreat
open Go.RowKit Go.BigFrame
open Go.Lib (hid)
set_option linter.unusedVariables false
set_option linter.unusedSimpArgs false
theorem recnum_any (n : Int) (k : Nat) (h0 : 0 ≤ n) (h1 : n ≤ 9223372036854775807) (hk : okSize k) (w : World) : Calls Tryz.prog 40 #[.int .i64 n, .int .i64 k] w (SIs (leB n.toNat k) w) := by
  obtain ⟨m, rfl⟩ : ∃ m : Nat, n = m := ⟨n.toNat, by omega⟩
  have h2 : (m : Int) ≤ 9223372036854775807 := h1
  have H := hid (oput_any m k (by omega) hk w)
  rw [show (m : Int).toNat = m from rfl]
  clear h1
  go_enter Tryz.func40, Tryz.ntmps40
  go_wp2_with fail
  refine H.out.mono ?_
  rintro e w1 ⟨rfl, hb⟩
  go_wp2_with fail
  go_ret
  exact ⟨rfl, hb⟩
set_option maxRecDepth 100000 in
set_option maxHeartbeats 4000000 in
theorem recpoint_any (i : ByteArray) (x : Nat) (hi : i.size ≤ 1000000) (hx : x < 4294967296) (w : World) : Calls Tryz.prog 71 #[.agg #[.string i, .int .u32 x]] w (SIs (i.data.toList ++ leB x 4) w) := by
  obtain ⟨s1, hs1⟩ : ∃ s, s = bL (leB x 4) := ⟨_, rfl⟩
  have q1 : s1.size = 4 := by rw [hs1, bL_size, leB_length]
  have HS := hid (show i ++ s1 = bL (i.data.toList ++ leB x 4) from by rw [hs1, ← bL_app, bL_data])
  have H1 := hid (show ∀ y : World, Calls Tryz.prog 41 #[.int .u64 x, .int .i64 4] y (fun e w' => e = .returned (.string s1) ∧ Below y.heap.size y w') from fun y => by rw [hs1]; exact oput_any x 4 (by omega) (.inr (.inr (.inl rfl))) y)
  clear hs1
  have hwr : IntKind.u64.wrap (x : Int) = x := by rw [IntKind.wrap_u64]; omega
  go_enter Tryz.func71, Tryz.ntmps71
  go_upto_region 1 with fail
  have hz := heap_alloc_new w (.cells #[.string i, .int .u32 x] 31)
  have hal : Below w.heap.size w (w.alloc (.cells #[.string i, .int .u32 x] 31)) := (Below.refl _ _).alloc (Nat.le_refl _) _
  obtain ⟨X, hX⟩ : ∃ q, q = w.heap.size := ⟨_, rfl⟩
  rw [← hX] at hz ⊢
  generalize w.alloc (.cells #[.string i, .int .u32 x] 31) = w0 at *
  have x0 : w0.cell? ⟨X, 0, none⟩ = some (.string i) := cell_at hz
  have x1 : w0.cell? ⟨X, 1, none⟩ = some (.int .u32 x) := cell_at hz
  have HB := hid hal
  clear hz hal hX
  obtain ⟨C, hC⟩ : ∃ C : World → Prop, C = fun w' => Below w0.heap.size w0 w' := ⟨_, rfl⟩
  have kx0 := kin_cell hC x0
  have kx1 := kin_cell hC x1
  have QA := hid (kin_call hC fun y h => H1.out y)
  have HC := hid hC
  clear hC
  refine wp_region_kin C (by kernel_rfl) (by kernel_rfl) (by rw [HC.out]; exact ⟨rfl, rfl, rfl, Nat.le_refl _, fun _ _ => rfl⟩) ?_
  intro hne
  repeat (first | (go_big_quiet_step ((rename_i y; go_at_call 41; exact Calls.kin (QA.out y) (fun w' h => h)))) | (quiet_step ((rename_i y; go_at_call 41; exact Calls.kin (QA.out y) (fun w' h => h)))))
  refine wpQuiet_nil ?_
  intro _ hw'
  obtain ⟨kx, hw''⟩ := hw'
  subst hw''
  obtain ⟨w1, hxc⟩ := kx
  rw [HC.out] at hxc
  clear HC hne kx0 kx1
  have HB := hid (HB.out.trans (hxc.mono HB.out.size))
  go_wp2_with fail
  go_ret
  exact ⟨congrArg (fun s => Ending.returned (.string s)) HS.out, HB.out⟩
set_option maxRecDepth 100000 in
set_option maxHeartbeats 8000000 in
theorem recwish_any (v1 : Value) (r : PRec) (w : World) (h1 : RecAt w v1 r) (g1 : 0 ≤ r.br) (g2 : 0 ≤ r.dead) (g3 : 0 ≤ r.budget) (g4 : 0 ≤ r.start) : Calls Tryz.prog 70 #[v1] w (SIs (wishL r) w) := by
  obtain ⟨va, vb, rfl, hi1, ho1, hk1⟩ := h1
  have HI := hid hi1
  have HO := hid ho1
  have HK := hid hk1
  obtain ⟨ia, ic, rfl, -, -⟩ := hi1.shape
  obtain ⟨oa, oc, rfl, -, -⟩ := ho1.shape
  obtain ⟨n1, hn1⟩ : ∃ n, n = r.tx.ins.length := ⟨_, rfl⟩
  obtain ⟨n2, hn2⟩ : ∃ n, n = r.tx.outs.length := ⟨_, rfl⟩
  rw [← hn1, ← hn2]
  rw [← hn1] at HI
  rw [← hn2] at HO
  have hwt : IntKind.i64.wrap (r.tag : Int) = r.tag := by have := hk1.tag; rw [IntKind.wrap_i64]; omega
  have hwd : IntKind.i64.wrap (r.delay : Int) = r.delay := by have := hk1.delay; rw [IntKind.wrap_i64]; omega
  have hwh : IntKind.i64.wrap (r.height : Int) = r.height := by have := hk1.height; rw [IntKind.wrap_i64]; omega
  obtain ⟨s0, hs0⟩ : ∃ s, s = bL (leB r.br.toNat 1) := ⟨_, rfl⟩
  have q0 : s0.size = 1 := by rw [hs0, bL_size, leB_length]
  have H0 := hid (show ∀ y : World, Calls Tryz.prog 40 #[.int .i64 r.br, .int .i64 1] y (fun e w' => e = .returned (.string s0) ∧ Below y.heap.size y w') from fun y => by rw [hs0]; exact recnum_any r.br 1 g1 hk1.br.2 (.inl rfl) y)
  obtain ⟨s1, hs1⟩ : ∃ s, s = bL (leB r.tag 2) := ⟨_, rfl⟩
  have q1 : s1.size = 2 := by rw [hs1, bL_size, leB_length]
  have H1 := hid (show ∀ y : World, Calls Tryz.prog 40 #[.int .i64 (r.tag : Int), .int .i64 2] y (fun e w' => e = .returned (.string s1) ∧ Below y.heap.size y w') from fun y => by rw [hs1]; exact recnum_any (r.tag : Int) 2 (by omega) (by have := hk1.tag; omega) (.inr (.inl rfl)) y)
  obtain ⟨s2, hs2⟩ : ∃ s, s = bL (leB r.delay 2) := ⟨_, rfl⟩
  have q2 : s2.size = 2 := by rw [hs2, bL_size, leB_length]
  have H2 := hid (show ∀ y : World, Calls Tryz.prog 40 #[.int .i64 (r.delay : Int), .int .i64 2] y (fun e w' => e = .returned (.string s2) ∧ Below y.heap.size y w') from fun y => by rw [hs2]; exact recnum_any (r.delay : Int) 2 (by omega) (by have := hk1.delay; omega) (.inr (.inl rfl)) y)
  obtain ⟨s3, hs3⟩ : ∃ s, s = bL (leB r.height 4) := ⟨_, rfl⟩
  have q3 : s3.size = 4 := by rw [hs3, bL_size, leB_length]
  have H3 := hid (show ∀ y : World, Calls Tryz.prog 40 #[.int .i64 (r.height : Int), .int .i64 4] y (fun e w' => e = .returned (.string s3) ∧ Below y.heap.size y w') from fun y => by rw [hs3]; exact recnum_any (r.height : Int) 4 (by omega) (by have := hk1.height; omega) (.inr (.inr (.inl rfl))) y)
  obtain ⟨s4, hs4⟩ : ∃ s, s = bL (leB r.dead.toNat 4) := ⟨_, rfl⟩
  have q4 : s4.size = 4 := by rw [hs4, bL_size, leB_length]
  have H4 := hid (show ∀ y : World, Calls Tryz.prog 40 #[.int .i64 r.dead, .int .i64 4] y (fun e w' => e = .returned (.string s4) ∧ Below y.heap.size y w') from fun y => by rw [hs4]; exact recnum_any r.dead 4 g2 hk1.dead.2 (.inr (.inr (.inl rfl))) y)
  obtain ⟨s5, hs5⟩ : ∃ s, s = bL (leB r.budget.toNat 8) := ⟨_, rfl⟩
  have q5 : s5.size = 8 := by rw [hs5, bL_size, leB_length]
  have H5 := hid (show ∀ y : World, Calls Tryz.prog 40 #[.int .i64 r.budget, .int .i64 8] y (fun e w' => e = .returned (.string s5) ∧ Below y.heap.size y w') from fun y => by rw [hs5]; exact recnum_any r.budget 8 g3 hk1.budget.2 (.inr (.inr (.inr rfl))) y)
  obtain ⟨s6, hs6⟩ : ∃ s, s = bL (leB r.start.toNat 4) := ⟨_, rfl⟩
  have q6 : s6.size = 4 := by rw [hs6, bL_size, leB_length]
  have H6 := hid (show ∀ y : World, Calls Tryz.prog 40 #[.int .i64 r.start, .int .i64 4] y (fun e w' => e = .returned (.string s6) ∧ Below y.heap.size y w') from fun y => by rw [hs6]; exact recnum_any r.start 4 g4 hk1.start.2 (.inr (.inr (.inl rfl))) y)
  have HS := hid (show s0 ++ s1 ++ s2 ++ s3 ++ s4 ++ s5 ++ s6 = bL (wishL r) from by rw [hs0, hs1, hs2, hs3, hs4, hs5, hs6]; simp only [bL_app]; unfold wishL; simp only [List.append_assoc, List.append_nil])
  clear g1 g2 g3 g4 hk1 hi1 ho1 hn1 hn2 HI HO HK hs0 hs1 hs2 hs3 hs4 hs5 hs6
  go_enter Tryz.func70, Tryz.ntmps70
  go_upto_region 2 with fail
  obtain ⟨X, hX⟩ : ∃ q, q = w.heap.size := ⟨_, rfl⟩
  have hnews := new2 w X hX (.cells #[.int .i64 r.kind, .int .i64 r.num, .int .u32 r.tx.ver, .slice ia n1 ic, .slice oa n2 oc, .int .u32 r.tx.lock, .int .i64 r.index, .string r.id, .int .u32 r.idx, .int .i64 r.val, .int .i64 r.br, .int .u16 r.tag, .int .u16 r.delay, .int .u32 r.height, .int .i64 r.dead, .int .i64 r.budget, .int .i64 r.start, .int .i64 r.fee] 35) (.cells #[.string r.id, .int .u32 r.idx, .int .i64 r.val, .int .i64 r.br, .int .u16 r.tag, .int .u16 r.delay, .int .u32 r.height, .int .i64 r.dead] 33)
  rw [← hX]
  generalize ((w.alloc (.cells #[.int .i64 r.kind, .int .i64 r.num, .int .u32 r.tx.ver, .slice ia n1 ic, .slice oa n2 oc, .int .u32 r.tx.lock, .int .i64 r.index, .string r.id, .int .u32 r.idx, .int .i64 r.val, .int .i64 r.br, .int .u16 r.tag, .int .u16 r.delay, .int .u32 r.height, .int .i64 r.dead, .int .i64 r.budget, .int .i64 r.start, .int .i64 r.fee] 35)).alloc (.cells #[.string r.id, .int .u32 r.idx, .int .i64 r.val, .int .i64 r.br, .int .u16 r.tag, .int .u16 r.delay, .int .u32 r.height, .int .i64 r.dead] 33)) = w0 at *
  obtain ⟨hz0, hz1, hal⟩ := hnews
  have HB := hid hal
  have x15 : w0.cell? ⟨X, 15, none⟩ = some (.int .i64 r.budget) := cell_at hz0
  have x16 : w0.cell? ⟨X, 16, none⟩ = some (.int .i64 r.start) := cell_at hz0
  have y3 : w0.cell? ⟨X + 1, 3, none⟩ = some (.int .i64 r.br) := cell_at hz1
  have y4 : w0.cell? ⟨X + 1, 4, none⟩ = some (.int .u16 r.tag) := cell_at hz1
  have y5 : w0.cell? ⟨X + 1, 5, none⟩ = some (.int .u16 r.delay) := cell_at hz1
  have y6 : w0.cell? ⟨X + 1, 6, none⟩ = some (.int .u32 r.height) := cell_at hz1
  have y7 : w0.cell? ⟨X + 1, 7, none⟩ = some (.int .i64 r.dead) := cell_at hz1
  clear hz0 hz1 hal hX
  obtain ⟨C, hC⟩ : ∃ C : World → Prop, C = fun w' => Below w0.heap.size w0 w' := ⟨_, rfl⟩
  have kx15 := kin_cell hC x15
  have kx16 := kin_cell hC x16
  have ky3 := kin_cell hC y3
  have ky4 := kin_cell hC y4
  have ky5 := kin_cell hC y5
  have ky6 := kin_cell hC y6
  have ky7 := kin_cell hC y7
  have QQ0 := hid (kin_call hC fun y h => H0.out y)
  have QQ1 := hid (kin_call hC fun y h => H1.out y)
  have QQ2 := hid (kin_call hC fun y h => H2.out y)
  have QQ3 := hid (kin_call hC fun y h => H3.out y)
  have QQ4 := hid (kin_call hC fun y h => H4.out y)
  have QQ5 := hid (kin_call hC fun y h => H5.out y)
  have QQ6 := hid (kin_call hC fun y h => H6.out y)
  have HC := hid hC
  clear hC
  refine wp_region_kin C (by kernel_rfl) (by kernel_rfl) (by rw [HC.out]; exact ⟨rfl, rfl, rfl, Nat.le_refl _, fun _ _ => rfl⟩) ?_
  intro hne
  repeat (first | (go_big_quiet_step (first | (rename_i y; go_at_call_of 40 (#[.int .i64 r.br, .int .i64 1] : Array Value); exact Calls.kin (QQ0.out y) (fun w' h => h)) | (rename_i y; go_at_call_of 40 (#[.int .i64 (r.tag : Int), .int .i64 2] : Array Value); exact Calls.kin (QQ1.out y) (fun w' h => h)) | (rename_i y; go_at_call_of 40 (#[.int .i64 (r.delay : Int), .int .i64 2] : Array Value); exact Calls.kin (QQ2.out y) (fun w' h => h)) | (rename_i y; go_at_call_of 40 (#[.int .i64 (r.height : Int), .int .i64 4] : Array Value); exact Calls.kin (QQ3.out y) (fun w' h => h)) | (rename_i y; go_at_call_of 40 (#[.int .i64 r.dead, .int .i64 4] : Array Value); exact Calls.kin (QQ4.out y) (fun w' h => h)) | (rename_i y; go_at_call_of 40 (#[.int .i64 r.budget, .int .i64 8] : Array Value); exact Calls.kin (QQ5.out y) (fun w' h => h)) | (rename_i y; go_at_call_of 40 (#[.int .i64 r.start, .int .i64 4] : Array Value); exact Calls.kin (QQ6.out y) (fun w' h => h)))) | (quiet_step (first | (rename_i y; go_at_call_of 40 (#[.int .i64 r.br, .int .i64 1] : Array Value); exact Calls.kin (QQ0.out y) (fun w' h => h)) | (rename_i y; go_at_call_of 40 (#[.int .i64 (r.tag : Int), .int .i64 2] : Array Value); exact Calls.kin (QQ1.out y) (fun w' h => h)) | (rename_i y; go_at_call_of 40 (#[.int .i64 (r.delay : Int), .int .i64 2] : Array Value); exact Calls.kin (QQ2.out y) (fun w' h => h)) | (rename_i y; go_at_call_of 40 (#[.int .i64 (r.height : Int), .int .i64 4] : Array Value); exact Calls.kin (QQ3.out y) (fun w' h => h)) | (rename_i y; go_at_call_of 40 (#[.int .i64 r.dead, .int .i64 4] : Array Value); exact Calls.kin (QQ4.out y) (fun w' h => h)) | (rename_i y; go_at_call_of 40 (#[.int .i64 r.budget, .int .i64 8] : Array Value); exact Calls.kin (QQ5.out y) (fun w' h => h)) | (rename_i y; go_at_call_of 40 (#[.int .i64 r.start, .int .i64 4] : Array Value); exact Calls.kin (QQ6.out y) (fun w' h => h)))))
  refine wpQuiet_nil ?_
  intro _ hw'
  obtain ⟨kx, hw''⟩ := hw'
  subst hw''
  obtain ⟨w1, hxc⟩ := kx
  rw [HC.out] at hxc
  clear HC hne kx15 kx16 ky3 ky4 ky5 ky6 ky7
  have HB := hid (HB.out.trans (hxc.mono HB.out.size))
  go_wp2_with fail
  go_ret
  exact ⟨congrArg (fun s => Ending.returned (.string s)) HS.out, HB.out⟩
end Go.Proofs.YtaooibocknemkaaGreat
end

section
namespace Go.Proofs.YtaooibocknemkaaGreat
open Go.RowKit Go.BigFrame
set_option linter.unusedVariables false
set_option linter.unusedSimpArgs false

def mkB (bare : Bool) (l : List PIn) : Bool := !bare && l.any fun x => decide (0 < x.wit.length)
theorem mkB_step (bare : Bool) {l : List PIn} {k : Nat} {x : PIn} (h : l[k]? = some x) : mkB bare (l.take (k + 1)) = (mkB bare (l.take k) || (!bare && decide (0 < x.wit.length))) := by
  unfold mkB
  rw [List.take_add_one, h]
  cases bare <;> simp
theorem vint_size (n : Nat) : (bL (vintL n)).size ≤ 9 := by rw [bL_size]; exact vintL_le n
theorem leb_size (n k : Nat) : (bL (leB n k)).size = k := by rw [bL_size, leB_length]
theorem str_app {s s' : ByteArray} {L M : List UInt8} (h : s = bL L) (h' : s' = bL M) : s ++ s' = bL (L ++ M) := by rw [h, h', bL_app]

set_option maxRecDepth 100000 in
set_option maxHeartbeats 2000000 in
theorem rbytes_any (v : Value) (t : PTx) (bare : Bool) (w : World) (hv : TxAt w v t) (he : Enc t) : Calls Tryz.prog 79 #[v, .bool bare] w (SIs (encL t (!bare && witOf t)) w) := by
  obtain ⟨va, vo, rfl, hia, hob, hver, hlock⟩ := hv
  obtain ⟨a, c, rfl, -, hl2⟩ := hia.shape
  obtain ⟨a', c', rfl, -, hl2'⟩ := hob.shape
  rw [maxLen_eq] at hl2 hl2'
  obtain ⟨n, hn⟩ : ∃ n, n = t.ins.length := ⟨_, rfl⟩
  obtain ⟨m, hm⟩ : ∃ n, n = t.outs.length := ⟨_, rfl⟩
  have htb := TB.start (t := t) hia hob
  rw [← hn, ← hm] at htb ⊢
  have HTB := Lib.hid htb
  have hn2 : n ≤ 256 := by rw [hn]; exact he.ins
  have hm2 : m ≤ 256 := by rw [hm]; exact he.outs
  have HN := Lib.hid (And.intro hn hm)
  have HE := Lib.hid he
  have hverI : (t.ver : Int) < 4294967296 := by omega
  have hlockI : (t.lock : Int) < 4294967296 := by omega
  clear htb hia hob hn hm he
  go_enter Tryz.func79, Tryz.ntmps79
  go_upto_region 1 with fail
  generalize w.alloc (.cells #[.int .u32 t.ver, .slice a n c, .slice a' m c', .int .u32 t.lock] 26) = w0 at *
  have c1 : w0.cell? ⟨w.heap.size, 1, none⟩ = some (.slice a n c) := cell_at HTB.out.box
  go_wp2_with fail
  go_loopg [5, 6] n (fun g vm vi wr => ∃ k : Nat, g = n - k ∧ k ≤ n ∧ vm = .bool (mkB bare (t.ins.take k)) ∧ vi = .int .i64 k ∧ TB w (.slice a n c) (.slice a' m c') t wr)
  case atStart => exact ⟨0, rfl, by omega, by simp [mkB], rfl, HTB.out⟩
  case round =>
    clear HTB c1
    rename World => wi
    obtain ⟨k, hgk, hk, rfl, rfl, htb⟩ := hrel
    have HGK := Lib.hid hgk
    have HTB := Lib.hid htb
    clear hgk htb
    have c1 : wi.cell? ⟨w.heap.size, 1, none⟩ = some (.slice a n c) := cell_at HTB.out.box
    by_cases hlt : k < n
    · obtain ⟨bb, o, x, wv, rfl, hx, hseq, hidx, hid, hwv, d0, d1, d2, d3⟩ := HTB.out.ins.inp hlt
      obtain ⟨xa, xc, rfl, -, hxm⟩ := hwv.shape
      rw [maxLen_eq] at hxm
      have hst := mkB_step bare hx
      have hlo : (0 : Int) ≤ (k : Int) := by omega
      clear hwv hid d0 d1 d2 hx
      generalize x.wit.length = xl at *
      generalize mkB bare (t.ins.take k) = mk at *
      have HST := Lib.hid hst
      clear hst
      cases mk
      · cases bare
        · by_cases h0 : xl = 0
          · subst h0
            go_wp2_with fail
            go_roundg (n - (k + 1))
            case measure => have := HGK.out; omega
            case rel => exact ⟨k + 1, rfl, by omega, by rw [HST.out]; rfl, by go_num, HTB.out⟩
          · have h1 : (0 : Int) < (xl : Int) := by omega
            go_wp2_with fail
            go_roundg (n - (k + 1))
            case measure => have := HGK.out; omega
            case rel => exact ⟨k + 1, rfl, by omega, by rw [HST.out]; simp, by go_num, HTB.out⟩
        · go_wp2_with fail
          go_roundg (n - (k + 1))
          case measure => have := HGK.out; omega
          case rel => exact ⟨k + 1, rfl, by omega, by rw [HST.out]; rfl, by go_num, HTB.out⟩
      · go_wp2_with fail
        go_roundg (n - (k + 1))
        case measure => have := HGK.out; omega
        case rel => exact ⟨k + 1, rfl, by omega, by rw [HST.out]; rfl, by go_num, HTB.out⟩
    · obtain rfl : k = n := by omega
      have hmm : mkB bare (t.ins.take k) = (!bare && witOf t) := by rw [HN.out.1, List.take_length]; rfl
      rw [hmm]
      generalize (!bare && witOf t) = mm at *
      clear hmm HGK hlt hk
      have c0 : wi.cell? ⟨w.heap.size, 0, none⟩ = some (.int .u32 t.ver) := cell_at HTB.out.box
      go_wp2_with fail
      refine (orput_any t.ver 4 (by omega) (.inr (.inr (.inl rfl))) wi).mono ?_
      rintro en w1 ⟨rfl, hb⟩
      have HTB := Lib.hid (HTB.out.next hb)
      have q1 := leb_size t.ver 4
      clear hb c0 c1
      go_upto_if 42 with fail
      go_cut [7] (fun vs wx => ∃ so, vs = .string so ∧ so = bL (leB t.ver 4 ++ markL mm) ∧ TB w (.slice a k c) (.slice a' m c') t wx)
      case first =>
        cases mm
        · go_wp2_with fail
          go_meet
          exact ⟨_, rfl, by simp [markL], HTB.out⟩
        · go_wp2_with fail
          go_meet
          exact ⟨_, rfl, str_app rfl rfl, HTB.out⟩
      case rest =>
        clear HTB q1
        rename World => wx
        obtain ⟨so, rfl, hso, htb⟩ := hcut
        have HTB := Lib.hid htb
        have hsz : so.size ≤ 20 := by rw [hso, bL_size, List.length_append, leB_length]; unfold markL; split <;> simp
        have HSO := Lib.hid hso
        clear htb hso
        have c1 : wx.cell? ⟨w.heap.size, 1, none⟩ = some (.slice a k c) := cell_at HTB.out.box
        go_wp2_with fail
        refine (rlength_any k (by omega) wx).mono ?_
        rintro en w2 ⟨rfl, hb⟩
        have HTB := Lib.hid (HTB.out.next hb)
        clear hb c1
        have q2 := vint_size k
        have HS2 := Lib.hid (show so ++ bL (vintL k) = bL (preB t mm 0) by rw [str_app HSO.out rfl, preB_zero, HN.out.1]; rfl)
        clear HSO
        go_wp2_with fail
        go_loopg [7, 9] k (fun g vs vi wr => ∃ (z : Nat) (so : ByteArray), g = k - z ∧ z ≤ k ∧ vs = .string so ∧ vi = .int .i64 z ∧ so = bL (preB t mm z) ∧ TB w (.slice a k c) (.slice a' m c') t wr)
        case atStart => exact ⟨0, _, rfl, by omega, rfl, rfl, HS2.out, HTB.out⟩
        case round =>
          clear HTB HS2 hsz q2
          rename World => wl
          obtain ⟨z, so, hgk, hz1, rfl, rfl, hso, htb⟩ := hrel
          have HGK := Lib.hid hgk
          have HTB := Lib.hid htb
          have hsz : so.size ≤ 20000 := by rw [hso, bL_size]; exact preB_le HE.out mm z
          have HSO := Lib.hid hso
          clear hgk htb hso
          have c1 : wl.cell? ⟨w.heap.size, 1, none⟩ = some (.slice a k c) := cell_at HTB.out.box
          by_cases hlt : z < k
          · obtain ⟨bb, o, x, wv, rfl, hx, hseq, hidx, hid, hwv, d0, d1, d2, d3⟩ := HTB.out.ins.inp hlt
            have hid32 : x.id.size = 32 := (HE.out.ids x (List.mem_of_getElem? hx)).1
            have HX := Lib.hid hx
            have hlo : (0 : Int) ≤ (z : Int) := by omega
            clear hx hid hwv d3
            go_wp2_with fail
            refine (orput_any x.idx 4 (by omega) (.inr (.inr (.inl rfl))) wl).mono ?_
            rintro en w3 ⟨rfl, hb⟩
            have HTB := Lib.hid (HTB.out.next hb)
            replace c1 := below_cells hb _ _ c1
            replace d0 := below_cells hb _ _ d0
            replace d1 := below_cells hb _ _ d1
            replace d2 := below_cells hb _ _ d2
            clear hb
            have q1 := leb_size x.idx 4
            go_wp2_with fail
            refine (orput_any x.seq 4 (by omega) (.inr (.inr (.inl rfl))) w3).mono ?_
            rintro en w4 ⟨rfl, hb⟩
            have HTB := Lib.hid (HTB.out.next hb)
            replace c1 := below_cells hb _ _ c1
            replace d0 := below_cells hb _ _ d0
            replace d1 := below_cells hb _ _ d1
            replace d2 := below_cells hb _ _ d2
            clear hb
            have q2 := leb_size x.seq 4
            have q3 : (⟨#[0]⟩ : ByteArray).size = 1 := rfl
            have HS2 := Lib.hid (show so ++ x.id ++ bL (leB x.idx 4) ++ ⟨#[0]⟩ ++ bL (leB x.seq 4) = bL (preB t mm (z + 1)) by rw [← preB_step t mm HX.out]; exact str_app (str_app (str_app (str_app HSO.out (bL_data _).symm) rfl) rfl) rfl)
            go_wp2_with fail
            go_roundg (k - (z + 1))
            case measure => have := HGK.out; omega
            case rel => exact ⟨z + 1, _, rfl, by omega, rfl, by go_num, HS2.out, HTB.out⟩
          · obtain rfl : z = k := by omega
            have c2 : wl.cell? ⟨w.heap.size, 2, none⟩ = some (.slice a' m c') := cell_at HTB.out.box
            go_wp2_with fail
            refine (rlength_any m (by omega) wl).mono ?_
            rintro en w2 ⟨rfl, hb⟩
            have HTB := Lib.hid (HTB.out.next hb)
            clear hb c2 c1 HGK
            have q2 := vint_size m
            have HS2 := Lib.hid (show so ++ bL (vintL m) = bL (preD t mm 0) by rw [str_app HSO.out rfl, preD_zero, ← preB_full, ← HN.out.1, ← HN.out.2])
            clear HSO
            go_wp2_with fail
            go_loopg [7, 12] m (fun g vs vi wr => ∃ (q : Nat) (so : ByteArray), g = m - q ∧ q ≤ m ∧ vs = .string so ∧ vi = .int .i64 q ∧ so = bL (preD t mm q) ∧ TB w (.slice a z c) (.slice a' m c') t wr)
            case atStart => exact ⟨0, _, rfl, by omega, rfl, rfl, HS2.out, HTB.out⟩
            case round =>
              clear HTB HS2 hsz q2
              rename World => wq
              obtain ⟨q, so, hgk, hq1, rfl, rfl, hso, htb⟩ := hrel
              have HGK := Lib.hid hgk
              have HTB := Lib.hid htb
              have hsz : so.size ≤ 40000 := by rw [hso, bL_size]; exact preD_le HE.out mm q
              have HSO := Lib.hid hso
              clear hgk htb hso
              have c2 : wq.cell? ⟨w.heap.size, 2, none⟩ = some (.slice a' m c') := cell_at HTB.out.box
              by_cases hlt : q < m
              · obtain ⟨bo, oo, x, rfl, hx, hok, d0, d1⟩ := HTB.out.outs.outp hlt
                have hv := HE.out.vals x (List.mem_of_getElem? hx)
                obtain ⟨vn, hvn⟩ : ∃ n : Nat, x.val = (n : Int) := ⟨x.val.toNat, by omega⟩
                rw [hvn] at d0
                have hvn2 : x.val.toNat = vn := by omega
                have hvb : vn ≤ 2100000000000000 := by omega
                have hss : x.script.size ≤ 40 := hv.2
                have HX := Lib.hid (And.intro hx hvn2)
                have hlo : (0 : Int) ≤ (q : Int) := by omega
                clear hx hok hv hvn hvn2
                have hv1 : (0 : Int) ≤ (vn : Int) := by omega
                have hv2 : (vn : Int) ≤ 2100000000000000 := by omega
                go_wp2_with fail
                refine (orput_any vn 8 (by omega) (.inr (.inr (.inr rfl))) wq).mono ?_
                rintro en w3 ⟨rfl, hb⟩
                have HTB := Lib.hid (HTB.out.next hb)
                replace c2 := below_cells hb _ _ c2
                replace d0 := below_cells hb _ _ d0
                replace d1 := below_cells hb _ _ d1
                clear hb
                have q1 := leb_size vn 8
                go_wp2_with fail
                refine (rlength_any x.script.size (by omega) w3).mono ?_
                rintro en w4 ⟨rfl, hb⟩
                have HTB := Lib.hid (HTB.out.next hb)
                replace c2 := below_cells hb _ _ c2
                replace d0 := below_cells hb _ _ d0
                replace d1 := below_cells hb _ _ d1
                clear hb
                have q2 := vint_size x.script.size
                have HS2 := Lib.hid (show so ++ bL (leB vn 8) ++ bL (vintL x.script.size) ++ x.script = bL (preD t mm (q + 1)) by rw [← preD_step t mm HX.out.1, HX.out.2, sizedL, ← List.append_assoc]; exact str_app (str_app (str_app HSO.out rfl) rfl) (bL_data _).symm)
                go_wp2_with fail
                go_roundg (m - (q + 1))
                case measure => have := HGK.out; omega
                case rel => exact ⟨q + 1, _, rfl, by omega, rfl, by go_num, HS2.out, HTB.out⟩
              · obtain rfl : q = m := by omega
                have HSO := Lib.hid (show so = bL (preF t mm 0) by rw [HSO.out, preF_zero, ← preD_full, ← HN.out.2])
                cases mm
                · have HSO := Lib.hid (show so = bL (preE t false) by rw [HSO.out, preF_zero])
                  go_wp2_with fail
                  go_loopg [7, 14] 0 (fun g vs vi wr => g = 0 ∧ vs = .string so ∧ vi = .int .i64 0 ∧ TB w (.slice a z c) (.slice a' q c') t wr)
                  case atStart => exact ⟨rfl, rfl, rfl, HTB.out⟩
                  case round =>
                    clear HTB c2 HGK
                    rename World => wy
                    obtain ⟨-, rfl, rfl, htb⟩ := hrel
                    have HTB := Lib.hid htb
                    clear htb
                    have c3 : wy.cell? ⟨w.heap.size, 3, none⟩ = some (.int .u32 t.lock) := cell_at HTB.out.box
                    go_wp2_with fail
                    refine (orput_any t.lock 4 (by omega) (.inr (.inr (.inl rfl))) wy).mono ?_
                    rintro en w3 ⟨rfl, hb⟩
                    have HB := Lib.hid ((HTB.out.next hb).bel)
                    clear hb c3
                    have q1 := leb_size t.lock 4
                    go_wp2_with fail
                    go_ret
                    exact ⟨by rw [str_app HSO.out rfl, preE_full]; rfl, HB.out⟩
                · go_wp2_with fail
                  go_loopg [7, 14] z (fun g vs vi wr => ∃ (y : Nat) (so : ByteArray), g = z - y ∧ y ≤ z ∧ vs = .string so ∧ vi = .int .i64 y ∧ so = bL (preF t true y) ∧ TB w (.slice a z c) (.slice a' q c') t wr)
                  case atStart => exact ⟨0, _, rfl, by omega, rfl, rfl, HSO.out, HTB.out⟩
                  case round =>
                    clear HTB HSO hsz c2 HGK
                    rename World => wy
                    obtain ⟨y, so, hgk, hy1, rfl, rfl, hso, htb⟩ := hrel
                    have HGK := Lib.hid hgk
                    have HTB := Lib.hid htb
                    have hsz : so.size ≤ 160000 := by rw [hso, bL_size]; exact preF_le HE.out true y
                    have HSO := Lib.hid hso
                    clear hgk htb hso
                    have c1 : wy.cell? ⟨w.heap.size, 1, none⟩ = some (.slice a z c) := cell_at HTB.out.box
                    by_cases hlt : y < z
                    · obtain ⟨bb, o, x, wv, rfl, hx, hseq, hidx, hid, hwv, d0, d1, d2, d3⟩ := HTB.out.ins.inp hlt
                      have HWV := Lib.hid hwv
                      obtain ⟨xa, xc, rfl, -, hxm⟩ := hwv.shape
                      rw [maxLen_eq] at hxm
                      obtain ⟨xl, hxl⟩ : ∃ n, n = x.wit.length := ⟨_, rfl⟩
                      rw [← hxl] at d3 HWV
                      have hin : x ∈ t.ins := List.mem_of_getElem? hx
                      have h4 : xl ≤ 4 := by rw [hxl]; exact (HE.out.ids x hin).2.1
                      have HX := Lib.hid (And.intro hx (And.intro hxl (HE.out.ids x hin).2))
                      have hlo : (0 : Int) ≤ (y : Int) := by omega
                      clear hx hid hin hwv hxl d0 d1 d2
                      go_wp2_with fail
                      refine (rlength_any xl (by omega) wy).mono ?_
                      rintro en w3 ⟨rfl, hb⟩
                      have HTB := Lib.hid (HTB.out.next hb)
                      have HWV := Lib.hid (HWV.out.below hb)
                      replace c1 := below_cells hb _ _ c1
                      replace d3 := below_cells hb _ _ d3
                      clear hb
                      have C1 := Lib.hid c1
                      have D3 := Lib.hid d3
                      have q1 := vint_size xl
                      have HS2 := Lib.hid (show so ++ bL (vintL xl) = bL (preF t true y ++ vintL xl ++ (x.wit.take 0).flatMap sizedL) by rw [str_app HSO.out rfl, List.take_zero, List.flatMap_nil, List.append_nil])
                      clear HSO
                      go_wp2_with fail
                      go_loopg [7, 15] xl (fun g vs vi wr => ∃ (u : Nat) (so : ByteArray), g = xl - u ∧ u ≤ xl ∧ vs = .string so ∧ vi = .int .i64 u ∧ so = bL (preF t true y ++ vintL xl ++ (x.wit.take u).flatMap sizedL) ∧ Below w3.heap.size w3 wr)
                      case atStart => exact ⟨0, _, rfl, by omega, rfl, rfl, HS2.out, Below.refl _ _⟩
                      case round =>
                        clear HS2 hsz q1 c1 d3
                        rename World => wu
                        obtain ⟨u, so, hgk, hu1, rfl, rfl, hso, hbu⟩ := hrel
                        have HGK2 := Lib.hid hgk
                        have HTB2 := Lib.hid (HTB.out.next hbu)
                        have HBU := Lib.hid hbu
                        have hlen : (preF t true y ++ vintL xl ++ (x.wit.take u).flatMap sizedL).length ≤ 170000 := by
                          have h1 := preF_le HE.out true y
                          have h2 := vintL_le xl
                          have h3 := flat_take_le sizedL 89 x.wit u fun s hs => by have h5 := sizedL_le s; have h6 := HX.out.2.2.2 s hs; omega
                          have h4 := HX.out.2.2.1
                          simp only [List.length_append]
                          omega
                        have hsz : so.size ≤ 170000 := by rw [hso, bL_size]; exact hlen
                        have HSO := Lib.hid hso
                        have c1 := below_cells hbu _ _ C1.out
                        have d3 := below_cells hbu _ _ D3.out
                        clear hlen hgk hso hbu
                        by_cases hul : u < xl
                        · obtain ⟨bs, os, s, rfl, hs, -, ds⟩ := (HWV.out.below HBU.out).str hul
                          have hs80 : s.size ≤ 80 := HX.out.2.2.2 s (List.mem_of_getElem? hs)
                          have HS := Lib.hid hs
                          have hlo2 : (0 : Int) ≤ (u : Int) := by omega
                          clear hs
                          go_wp2_with fail
                          refine (rlength_any s.size (by omega) wu).mono ?_
                          rintro en w4 ⟨rfl, hb⟩
                          have HBU := Lib.hid (HBU.out.trans (hb.mono HBU.out.size))
                          replace c1 := below_cells hb _ _ c1
                          replace d3 := below_cells hb _ _ d3
                          replace ds := below_cells hb _ _ ds
                          clear hb
                          have q1 := vint_size s.size
                          have HS2 := Lib.hid (show so ++ bL (vintL s.size) ++ s = bL (preF t true y ++ vintL xl ++ (x.wit.take (u + 1)).flatMap sizedL) by rw [flat_take sizedL HS.out, sizedL, ← List.append_assoc, ← List.append_assoc]; exact str_app (str_app HSO.out rfl) (bL_data _).symm)
                          go_wp2_with fail
                          go_roundg (xl - (u + 1))
                          case measure => have := HGK2.out; omega
                          case rel => exact ⟨u + 1, _, rfl, by omega, rfl, by go_num, HS2.out, HBU.out⟩
                        · obtain rfl : u = xl := by omega
                          have HS2 := Lib.hid (show so = bL (preF t true (y + 1)) by rw [HSO.out, ← preF_step t true HX.out.1, ← HX.out.2.1, HX.out.2.1, List.take_length])
                          go_wp2_with fail
                          go_roundg (z - (y + 1))
                          case measure => have := HGK.out; omega
                          case rel => exact ⟨y + 1, _, rfl, by omega, rfl, by go_num, HS2.out, HTB2.out⟩
                    · obtain rfl : y = z := by omega
                      have HSO := Lib.hid (show so = bL (preF t true t.ins.length) by rw [HSO.out, HN.out.1])
                      have c3 : wy.cell? ⟨w.heap.size, 3, none⟩ = some (.int .u32 t.lock) := cell_at HTB.out.box
                      go_wp2_with fail
                      refine (orput_any t.lock 4 (by omega) (.inr (.inr (.inl rfl))) wy).mono ?_
                      rintro en w3 ⟨rfl, hb⟩
                      have HB := Lib.hid ((HTB.out.next hb).bel)
                      clear hb c3 c1
                      have q1 := leb_size t.lock 4
                      go_wp2_with fail
                      go_ret
                      exact ⟨by rw [str_app HSO.out rfl, preF_full]; rfl, HB.out⟩
end Go.Proofs.YtaooibocknemkaaGreat
end

section
namespace Go.Proofs.YtaooibocknemkaaGreat
open Go.RowKit Go.BigFrame
open Go.Lib (hid)
set_option linter.unusedVariables false
set_option linter.unusedSimpArgs false
set_option maxRecDepth 100000 in
set_option maxHeartbeats 8000000 in
theorem pay26_k3 (v1 : Value) (r : PRec) (w : World) (h1 : RecAt w v1 r) (hg : Ranged r) (hk : r.kind = 3) : Calls Tryz.prog 47 #[v1] w (SIs (payL r) w) := by
  obtain ⟨va, vb, rfl, hi1, ho1, hk1⟩ := h1
  have HI := hid hi1
  have HO := hid ho1
  have HK := hid hk1
  obtain ⟨ia, ic, rfl, -, -⟩ := hi1.shape
  obtain ⟨oa, oc, rfl, -, -⟩ := ho1.shape
  obtain ⟨n1, hn1⟩ : ∃ n, n = r.tx.ins.length := ⟨_, rfl⟩
  obtain ⟨n2, hn2⟩ : ∃ n, n = r.tx.outs.length := ⟨_, rfl⟩
  rw [← hn1, ← hn2]
  rw [← hn1] at HI
  rw [← hn2] at HO
  obtain ⟨p1, hsp1⟩ : ∃ s, s = bL (leB (3 : Int).toNat 1) := ⟨_, rfl⟩
  have qp1 : p1.size = 1 := by rw [hsp1, bL_size, leB_length]
  have Hp1 := hid (show ∀ y : World, Calls Tryz.prog 48 #[.int .i64 3, .int .i64 1] y (fun e w' => e = .returned (.string p1) ∧ Below y.heap.size y w') from fun y => by rw [hsp1]; exact rn_any 3 1 (by decide) (by decide) (.inl rfl) y)
  obtain ⟨p2, hsp2⟩ : ∃ s, s = bL (leB r.num.toNat 4) := ⟨_, rfl⟩
  have qp2 : p2.size = 4 := by rw [hsp2, bL_size, leB_length]
  have Hp2 := hid (show ∀ y : World, Calls Tryz.prog 48 #[.int .i64 r.num, .int .i64 4] y (fun e w' => e = .returned (.string p2) ∧ Below y.heap.size y w') from fun y => by rw [hsp2]; exact rn_any r.num 4 hg.num.1 hk1.num.2 (.inr (.inr (.inl rfl))) y)
  have hid32 := hg.id (by omega) (by omega)
  have hwi : IntKind.i64.wrap (r.idx : Int) = r.idx := by have := hk1.idx; rw [IntKind.wrap_i64]; omega
  obtain ⟨x4, hsx4⟩ : ∃ s, s = bL (leB r.idx 4) := ⟨_, rfl⟩
  have qx4 : x4.size = 4 := by rw [hsx4, bL_size, leB_length]
  have Hx4 := hid (show ∀ y : World, Calls Tryz.prog 48 #[.int .i64 (r.idx : Int), .int .i64 4] y (fun e w' => e = .returned (.string x4) ∧ Below y.heap.size y w') from fun y => by rw [hsx4]; exact rn_any (r.idx : Int) 4 (by omega) (by have := hk1.idx; omega) (.inr (.inr (.inl rfl))) y)
  have HS := hid (show p1 ++ p2 ++ r.id ++ x4 = bL (payL r) from by
    rw [hsp1, hsp2, hsx4, ← bL_data r.id]
    simp only [bL_app]
    unfold payL bodyL
    rw [if_neg (by omega), if_neg (by omega), if_pos hk]
    simp only [pointL, wishL, hk, bL_list, List.append_assoc, List.append_nil])
  rw [hk]
  clear hg hk hk1 hi1 ho1 hn1 hn2 HI HO HK hsp1 hsp2 hsx4
  go_enter Tryz.func47, Tryz.ntmps47
  go_upto_region 1 with fail
  have hz := heap_alloc_new w (.cells #[.int .i64 3, .int .i64 r.num, .int .u32 r.tx.ver, .slice ia n1 ic, .slice oa n2 oc, .int .u32 r.tx.lock, .int .i64 r.index, .string r.id, .int .u32 r.idx, .int .i64 r.val, .int .i64 r.br, .int .u16 r.tag, .int .u16 r.delay, .int .u32 r.height, .int .i64 r.dead, .int .i64 r.budget, .int .i64 r.start, .int .i64 r.fee] 35)
  have hal : Below w.heap.size w (w.alloc (.cells #[.int .i64 3, .int .i64 r.num, .int .u32 r.tx.ver, .slice ia n1 ic, .slice oa n2 oc, .int .u32 r.tx.lock, .int .i64 r.index, .string r.id, .int .u32 r.idx, .int .i64 r.val, .int .i64 r.br, .int .u16 r.tag, .int .u16 r.delay, .int .u32 r.height, .int .i64 r.dead, .int .i64 r.budget, .int .i64 r.start, .int .i64 r.fee] 35)) := (Below.refl _ _).alloc (Nat.le_refl _) _
  obtain ⟨X, hX⟩ : ∃ q, q = w.heap.size := ⟨_, rfl⟩
  rw [← hX] at hz ⊢
  generalize w.alloc (.cells #[.int .i64 3, .int .i64 r.num, .int .u32 r.tx.ver, .slice ia n1 ic, .slice oa n2 oc, .int .u32 r.tx.lock, .int .i64 r.index, .string r.id, .int .u32 r.idx, .int .i64 r.val, .int .i64 r.br, .int .u16 r.tag, .int .u16 r.delay, .int .u32 r.height, .int .i64 r.dead, .int .i64 r.budget, .int .i64 r.start, .int .i64 r.fee] 35) = w0 at *
  have HB := hid hal
  have x0 : w0.cell? ⟨X, 0, none⟩ = some (.int .i64 3) := cell_at hz
  have x1 : w0.cell? ⟨X, 1, none⟩ = some (.int .i64 r.num) := cell_at hz
  have x7 : w0.cell? ⟨X, 7, none⟩ = some (.string r.id) := cell_at hz
  have x8 : w0.cell? ⟨X, 8, none⟩ = some (.int .u32 r.idx) := cell_at hz
  clear hz hal hX
  go_wp2_with fail
  refine (Hp1.out w0).mono ?_
  rintro e w1 ⟨rfl, hb⟩
  replace x0 := below_cells hb _ _ x0
  replace x1 := below_cells hb _ _ x1
  replace x7 := below_cells hb _ _ x7
  replace x8 := below_cells hb _ _ x8
  have HB := hid (HB.out.trans (hb.mono HB.out.size))
  clear hb
  go_wp2_with fail
  refine (Hp2.out w1).mono ?_
  rintro e w2 ⟨rfl, hb⟩
  replace x0 := below_cells hb _ _ x0
  replace x1 := below_cells hb _ _ x1
  replace x7 := below_cells hb _ _ x7
  replace x8 := below_cells hb _ _ x8
  have HB := hid (HB.out.trans (hb.mono HB.out.size))
  clear hb
  go_wp2_with fail
  refine (Hx4.out w2).mono ?_
  rintro e w3 ⟨rfl, hb⟩
  replace x0 := below_cells hb _ _ x0
  replace x1 := below_cells hb _ _ x1
  replace x7 := below_cells hb _ _ x7
  replace x8 := below_cells hb _ _ x8
  have HB := hid (HB.out.trans (hb.mono HB.out.size))
  clear hb
  go_wp2_with fail
  go_ret
  exact ⟨congrArg (fun s => Ending.returned (.string s)) HS.out, HB.out⟩
set_option maxRecDepth 100000 in
set_option maxHeartbeats 8000000 in
theorem pay26_k5 (v1 : Value) (r : PRec) (w : World) (h1 : RecAt w v1 r) (hg : Ranged r) (hk : r.kind = 5) : Calls Tryz.prog 47 #[v1] w (SIs (payL r) w) := by
  obtain ⟨va, vb, rfl, hi1, ho1, hk1⟩ := h1
  have HI := hid hi1
  have HO := hid ho1
  have HK := hid hk1
  obtain ⟨ia, ic, rfl, -, -⟩ := hi1.shape
  obtain ⟨oa, oc, rfl, -, -⟩ := ho1.shape
  obtain ⟨n1, hn1⟩ : ∃ n, n = r.tx.ins.length := ⟨_, rfl⟩
  obtain ⟨n2, hn2⟩ : ∃ n, n = r.tx.outs.length := ⟨_, rfl⟩
  rw [← hn1, ← hn2]
  rw [← hn1] at HI
  rw [← hn2] at HO
  obtain ⟨p1, hsp1⟩ : ∃ s, s = bL (leB (5 : Int).toNat 1) := ⟨_, rfl⟩
  have qp1 : p1.size = 1 := by rw [hsp1, bL_size, leB_length]
  have Hp1 := hid (show ∀ y : World, Calls Tryz.prog 48 #[.int .i64 5, .int .i64 1] y (fun e w' => e = .returned (.string p1) ∧ Below y.heap.size y w') from fun y => by rw [hsp1]; exact rn_any 5 1 (by decide) (by decide) (.inl rfl) y)
  obtain ⟨p2, hsp2⟩ : ∃ s, s = bL (leB r.num.toNat 4) := ⟨_, rfl⟩
  have qp2 : p2.size = 4 := by rw [hsp2, bL_size, leB_length]
  have Hp2 := hid (show ∀ y : World, Calls Tryz.prog 48 #[.int .i64 r.num, .int .i64 4] y (fun e w' => e = .returned (.string p2) ∧ Below y.heap.size y w') from fun y => by rw [hsp2]; exact rn_any r.num 4 hg.num.1 hk1.num.2 (.inr (.inr (.inl rfl))) y)
  have HS := hid (show p1 ++ p2 = bL (payL r) from by
    rw [hsp1, hsp2]
    simp only [bL_app]
    unfold payL bodyL
    rw [if_neg (by omega), if_neg (by omega), if_neg (by omega), if_neg (by omega)]
    simp only [pointL, wishL, hk, bL_list, List.append_assoc, List.append_nil])
  rw [hk]
  clear hg hk hk1 hi1 ho1 hn1 hn2 HI HO HK hsp1 hsp2
  go_enter Tryz.func47, Tryz.ntmps47
  go_upto_region 1 with fail
  have hz := heap_alloc_new w (.cells #[.int .i64 5, .int .i64 r.num, .int .u32 r.tx.ver, .slice ia n1 ic, .slice oa n2 oc, .int .u32 r.tx.lock, .int .i64 r.index, .string r.id, .int .u32 r.idx, .int .i64 r.val, .int .i64 r.br, .int .u16 r.tag, .int .u16 r.delay, .int .u32 r.height, .int .i64 r.dead, .int .i64 r.budget, .int .i64 r.start, .int .i64 r.fee] 35)
  have hal : Below w.heap.size w (w.alloc (.cells #[.int .i64 5, .int .i64 r.num, .int .u32 r.tx.ver, .slice ia n1 ic, .slice oa n2 oc, .int .u32 r.tx.lock, .int .i64 r.index, .string r.id, .int .u32 r.idx, .int .i64 r.val, .int .i64 r.br, .int .u16 r.tag, .int .u16 r.delay, .int .u32 r.height, .int .i64 r.dead, .int .i64 r.budget, .int .i64 r.start, .int .i64 r.fee] 35)) := (Below.refl _ _).alloc (Nat.le_refl _) _
  obtain ⟨X, hX⟩ : ∃ q, q = w.heap.size := ⟨_, rfl⟩
  rw [← hX] at hz ⊢
  generalize w.alloc (.cells #[.int .i64 5, .int .i64 r.num, .int .u32 r.tx.ver, .slice ia n1 ic, .slice oa n2 oc, .int .u32 r.tx.lock, .int .i64 r.index, .string r.id, .int .u32 r.idx, .int .i64 r.val, .int .i64 r.br, .int .u16 r.tag, .int .u16 r.delay, .int .u32 r.height, .int .i64 r.dead, .int .i64 r.budget, .int .i64 r.start, .int .i64 r.fee] 35) = w0 at *
  have HB := hid hal
  have x0 : w0.cell? ⟨X, 0, none⟩ = some (.int .i64 5) := cell_at hz
  have x1 : w0.cell? ⟨X, 1, none⟩ = some (.int .i64 r.num) := cell_at hz
  clear hz hal hX
  go_wp2_with fail
  refine (Hp1.out w0).mono ?_
  rintro e w1 ⟨rfl, hb⟩
  replace x0 := below_cells hb _ _ x0
  replace x1 := below_cells hb _ _ x1
  have HB := hid (HB.out.trans (hb.mono HB.out.size))
  clear hb
  go_wp2_with fail
  refine (Hp2.out w1).mono ?_
  rintro e w2 ⟨rfl, hb⟩
  replace x0 := below_cells hb _ _ x0
  replace x1 := below_cells hb _ _ x1
  have HB := hid (HB.out.trans (hb.mono HB.out.size))
  clear hb
  go_wp2_with fail
  go_ret
  exact ⟨congrArg (fun s => Ending.returned (.string s)) HS.out, HB.out⟩
set_option maxRecDepth 100000 in
set_option maxHeartbeats 8000000 in
theorem pay26_k4 (v1 : Value) (r : PRec) (w : World) (h1 : RecAt w v1 r) (hg : Ranged r) (hk : r.kind = 4) : Calls Tryz.prog 47 #[v1] w (SIs (payL r) w) := by
  obtain ⟨va, vb, rfl, hi1, ho1, hk1⟩ := h1
  have HI := hid hi1
  have HO := hid ho1
  have HK := hid hk1
  obtain ⟨ia, ic, rfl, -, -⟩ := hi1.shape
  obtain ⟨oa, oc, rfl, -, -⟩ := ho1.shape
  obtain ⟨n1, hn1⟩ : ∃ n, n = r.tx.ins.length := ⟨_, rfl⟩
  obtain ⟨n2, hn2⟩ : ∃ n, n = r.tx.outs.length := ⟨_, rfl⟩
  rw [← hn1, ← hn2]
  rw [← hn1] at HI
  rw [← hn2] at HO
  obtain ⟨p1, hsp1⟩ : ∃ s, s = bL (leB (4 : Int).toNat 1) := ⟨_, rfl⟩
  have qp1 : p1.size = 1 := by rw [hsp1, bL_size, leB_length]
  have Hp1 := hid (show ∀ y : World, Calls Tryz.prog 48 #[.int .i64 4, .int .i64 1] y (fun e w' => e = .returned (.string p1) ∧ Below y.heap.size y w') from fun y => by rw [hsp1]; exact rn_any 4 1 (by decide) (by decide) (.inl rfl) y)
  obtain ⟨p2, hsp2⟩ : ∃ s, s = bL (leB r.num.toNat 4) := ⟨_, rfl⟩
  have qp2 : p2.size = 4 := by rw [hsp2, bL_size, leB_length]
  have Hp2 := hid (show ∀ y : World, Calls Tryz.prog 48 #[.int .i64 r.num, .int .i64 4] y (fun e w' => e = .returned (.string p2) ∧ Below y.heap.size y w') from fun y => by rw [hsp2]; exact rn_any r.num 4 hg.num.1 hk1.num.2 (.inr (.inr (.inl rfl))) y)
  have hid32 := hg.id (by omega) (by omega)
  have hwi : IntKind.i64.wrap (r.idx : Int) = r.idx := by have := hk1.idx; rw [IntKind.wrap_i64]; omega
  obtain ⟨x4, hsx4⟩ : ∃ s, s = bL (leB r.idx 4) := ⟨_, rfl⟩
  have qx4 : x4.size = 4 := by rw [hsx4, bL_size, leB_length]
  have Hx4 := hid (show ∀ y : World, Calls Tryz.prog 48 #[.int .i64 (r.idx : Int), .int .i64 4] y (fun e w' => e = .returned (.string x4) ∧ Below y.heap.size y w') from fun y => by rw [hsx4]; exact rn_any (r.idx : Int) 4 (by omega) (by have := hk1.idx; omega) (.inr (.inr (.inl rfl))) y)
  obtain ⟨i2, hsi2⟩ : ∃ s, s = bL (leB r.index.toNat 2) := ⟨_, rfl⟩
  have qi2 : i2.size = 2 := by rw [hsi2, bL_size, leB_length]
  have Hi2 := hid (show ∀ y : World, Calls Tryz.prog 48 #[.int .i64 r.index, .int .i64 2] y (fun e w' => e = .returned (.string i2) ∧ Below y.heap.size y w') from fun y => by rw [hsi2]; exact rn_any r.index 2 (hg.bid hk).1 hk1.index.2 (.inr (.inl rfl)) y)
  obtain ⟨f8, hsf8⟩ : ∃ s, s = bL (leB r.fee.toNat 8) := ⟨_, rfl⟩
  have qf8 : f8.size = 8 := by rw [hsf8, bL_size, leB_length]
  have Hf8 := hid (show ∀ y : World, Calls Tryz.prog 48 #[.int .i64 r.fee, .int .i64 8] y (fun e w' => e = .returned (.string f8) ∧ Below y.heap.size y w') from fun y => by rw [hsf8]; exact rn_any r.fee 8 hg.fee.1 hk1.fee.2 (.inr (.inr (.inr rfl))) y)
  have HS := hid (show p1 ++ p2 ++ r.id ++ x4 ++ i2 ++ f8 = bL (payL r) from by
    rw [hsp1, hsp2, hsx4, hsi2, hsf8, ← bL_data r.id]
    simp only [bL_app]
    unfold payL bodyL
    rw [if_neg (by omega), if_neg (by omega), if_neg (by omega), if_pos hk]
    simp only [pointL, wishL, hk, bL_list, List.append_assoc, List.append_nil])
  rw [hk]
  clear hg hk hk1 hi1 ho1 hn1 hn2 HI HO HK hsp1 hsp2 hsx4 hsi2 hsf8
  go_enter Tryz.func47, Tryz.ntmps47
  go_upto_region 1 with fail
  have hz := heap_alloc_new w (.cells #[.int .i64 4, .int .i64 r.num, .int .u32 r.tx.ver, .slice ia n1 ic, .slice oa n2 oc, .int .u32 r.tx.lock, .int .i64 r.index, .string r.id, .int .u32 r.idx, .int .i64 r.val, .int .i64 r.br, .int .u16 r.tag, .int .u16 r.delay, .int .u32 r.height, .int .i64 r.dead, .int .i64 r.budget, .int .i64 r.start, .int .i64 r.fee] 35)
  have hal : Below w.heap.size w (w.alloc (.cells #[.int .i64 4, .int .i64 r.num, .int .u32 r.tx.ver, .slice ia n1 ic, .slice oa n2 oc, .int .u32 r.tx.lock, .int .i64 r.index, .string r.id, .int .u32 r.idx, .int .i64 r.val, .int .i64 r.br, .int .u16 r.tag, .int .u16 r.delay, .int .u32 r.height, .int .i64 r.dead, .int .i64 r.budget, .int .i64 r.start, .int .i64 r.fee] 35)) := (Below.refl _ _).alloc (Nat.le_refl _) _
  obtain ⟨X, hX⟩ : ∃ q, q = w.heap.size := ⟨_, rfl⟩
  rw [← hX] at hz ⊢
  generalize w.alloc (.cells #[.int .i64 4, .int .i64 r.num, .int .u32 r.tx.ver, .slice ia n1 ic, .slice oa n2 oc, .int .u32 r.tx.lock, .int .i64 r.index, .string r.id, .int .u32 r.idx, .int .i64 r.val, .int .i64 r.br, .int .u16 r.tag, .int .u16 r.delay, .int .u32 r.height, .int .i64 r.dead, .int .i64 r.budget, .int .i64 r.start, .int .i64 r.fee] 35) = w0 at *
  have HB := hid hal
  have x0 : w0.cell? ⟨X, 0, none⟩ = some (.int .i64 4) := cell_at hz
  have x1 : w0.cell? ⟨X, 1, none⟩ = some (.int .i64 r.num) := cell_at hz
  have x6 : w0.cell? ⟨X, 6, none⟩ = some (.int .i64 r.index) := cell_at hz
  have x7 : w0.cell? ⟨X, 7, none⟩ = some (.string r.id) := cell_at hz
  have x8 : w0.cell? ⟨X, 8, none⟩ = some (.int .u32 r.idx) := cell_at hz
  have x17 : w0.cell? ⟨X, 17, none⟩ = some (.int .i64 r.fee) := cell_at hz
  clear hz hal hX
  go_wp2_with fail
  refine (Hp1.out w0).mono ?_
  rintro e w1 ⟨rfl, hb⟩
  replace x0 := below_cells hb _ _ x0
  replace x1 := below_cells hb _ _ x1
  replace x6 := below_cells hb _ _ x6
  replace x7 := below_cells hb _ _ x7
  replace x8 := below_cells hb _ _ x8
  replace x17 := below_cells hb _ _ x17
  have HB := hid (HB.out.trans (hb.mono HB.out.size))
  clear hb
  go_wp2_with fail
  refine (Hp2.out w1).mono ?_
  rintro e w2 ⟨rfl, hb⟩
  replace x0 := below_cells hb _ _ x0
  replace x1 := below_cells hb _ _ x1
  replace x6 := below_cells hb _ _ x6
  replace x7 := below_cells hb _ _ x7
  replace x8 := below_cells hb _ _ x8
  replace x17 := below_cells hb _ _ x17
  have HB := hid (HB.out.trans (hb.mono HB.out.size))
  clear hb
  go_wp2_with fail
  refine (Hx4.out w2).mono ?_
  rintro e w3 ⟨rfl, hb⟩
  replace x0 := below_cells hb _ _ x0
  replace x1 := below_cells hb _ _ x1
  replace x6 := below_cells hb _ _ x6
  replace x7 := below_cells hb _ _ x7
  replace x8 := below_cells hb _ _ x8
  replace x17 := below_cells hb _ _ x17
  have HB := hid (HB.out.trans (hb.mono HB.out.size))
  clear hb
  go_wp2_with fail
  refine (Hi2.out w3).mono ?_
  rintro e w4 ⟨rfl, hb⟩
  replace x0 := below_cells hb _ _ x0
  replace x1 := below_cells hb _ _ x1
  replace x6 := below_cells hb _ _ x6
  replace x7 := below_cells hb _ _ x7
  replace x8 := below_cells hb _ _ x8
  replace x17 := below_cells hb _ _ x17
  have HB := hid (HB.out.trans (hb.mono HB.out.size))
  clear hb
  go_wp2_with fail
  refine (Hf8.out w4).mono ?_
  rintro e w5 ⟨rfl, hb⟩
  replace x0 := below_cells hb _ _ x0
  replace x1 := below_cells hb _ _ x1
  replace x6 := below_cells hb _ _ x6
  replace x7 := below_cells hb _ _ x7
  replace x8 := below_cells hb _ _ x8
  replace x17 := below_cells hb _ _ x17
  have HB := hid (HB.out.trans (hb.mono HB.out.size))
  clear hb
  go_wp2_with fail
  go_ret
  exact ⟨congrArg (fun s => Ending.returned (.string s)) HS.out, HB.out⟩
end Go.Proofs.YtaooibocknemkaaGreat
end

section
namespace Go.Proofs.YtaooibocknemkaaGreat
open Go.RowKit Go.BigFrame
open Go.Lib (hid)
set_option linter.unusedVariables false
set_option linter.unusedSimpArgs false
set_option maxRecDepth 100000 in
set_option maxHeartbeats 8000000 in
theorem pay26_k2 (v1 : Value) (r : PRec) (w : World) (h1 : RecAt w v1 r) (hg : Ranged r) (hk : r.kind = 2) : Calls Tryz.prog 47 #[v1] w (SIs (payL r) w) := by
  obtain ⟨va, vb, rfl, hi1, ho1, hk1⟩ := h1
  have HI := hid hi1
  have HO := hid ho1
  have HK := hid hk1
  obtain ⟨ia, ic, rfl, -, -⟩ := hi1.shape
  obtain ⟨oa, oc, rfl, -, -⟩ := ho1.shape
  obtain ⟨n1, hn1⟩ : ∃ n, n = r.tx.ins.length := ⟨_, rfl⟩
  obtain ⟨n2, hn2⟩ : ∃ n, n = r.tx.outs.length := ⟨_, rfl⟩
  rw [← hn1, ← hn2]
  rw [← hn1] at HI
  rw [← hn2] at HO
  obtain ⟨p1, hsp1⟩ : ∃ s, s = bL (leB (2 : Int).toNat 1) := ⟨_, rfl⟩
  have qp1 : p1.size = 1 := by rw [hsp1, bL_size, leB_length]
  have Hp1 := hid (show ∀ y : World, Calls Tryz.prog 48 #[.int .i64 2, .int .i64 1] y (fun e w' => e = .returned (.string p1) ∧ Below y.heap.size y w') from fun y => by rw [hsp1]; exact rn_any 2 1 (by decide) (by decide) (.inl rfl) y)
  obtain ⟨p2, hsp2⟩ : ∃ s, s = bL (leB r.num.toNat 4) := ⟨_, rfl⟩
  have qp2 : p2.size = 4 := by rw [hsp2, bL_size, leB_length]
  have Hp2 := hid (show ∀ y : World, Calls Tryz.prog 48 #[.int .i64 r.num, .int .i64 4] y (fun e w' => e = .returned (.string p2) ∧ Below y.heap.size y w') from fun y => by rw [hsp2]; exact rn_any r.num 4 hg.num.1 hk1.num.2 (.inr (.inr (.inl rfl))) y)
  have hid32 := hg.id (by omega) (by omega)
  have hwi : IntKind.i64.wrap (r.idx : Int) = r.idx := by have := hk1.idx; rw [IntKind.wrap_i64]; omega
  obtain ⟨x4, hsx4⟩ : ∃ s, s = bL (leB r.idx 4) := ⟨_, rfl⟩
  have qx4 : x4.size = 4 := by rw [hsx4, bL_size, leB_length]
  have Hx4 := hid (show ∀ y : World, Calls Tryz.prog 48 #[.int .i64 (r.idx : Int), .int .i64 4] y (fun e w' => e = .returned (.string x4) ∧ Below y.heap.size y w') from fun y => by rw [hsx4]; exact rn_any (r.idx : Int) 4 (by omega) (by have := hk1.idx; omega) (.inr (.inr (.inl rfl))) y)
  obtain ⟨v8, hsv8⟩ : ∃ s, s = bL (leB r.val.toNat 8) := ⟨_, rfl⟩
  have qv8 : v8.size = 8 := by rw [hsv8, bL_size, leB_length]
  have Hv8 := hid (show ∀ y : World, Calls Tryz.prog 48 #[.int .i64 r.val, .int .i64 8] y (fun e w' => e = .returned (.string v8) ∧ Below y.heap.size y w') from fun y => by rw [hsv8]; exact rn_any r.val 8 hg.val.1 hk1.val.2 (.inr (.inr (.inr rfl))) y)
  have hwtag : IntKind.i64.wrap (r.tag : Int) = r.tag := by have := hk1.tag; rw [IntKind.wrap_i64]; omega
  have hwdelay : IntKind.i64.wrap (r.delay : Int) = r.delay := by have := hk1.delay; rw [IntKind.wrap_i64]; omega
  have hwheight : IntKind.i64.wrap (r.height : Int) = r.height := by have := hk1.height; rw [IntKind.wrap_i64]; omega
  obtain ⟨b1, hsb1⟩ : ∃ s, s = bL (leB r.br.toNat 1) := ⟨_, rfl⟩
  have qb1 : b1.size = 1 := by rw [hsb1, bL_size, leB_length]
  have Hb1 := hid (show ∀ y : World, Calls Tryz.prog 48 #[.int .i64 r.br, .int .i64 1] y (fun e w' => e = .returned (.string b1) ∧ Below y.heap.size y w') from fun y => by rw [hsb1]; exact rn_any r.br 1 hg.br.1 hk1.br.2 (.inl rfl) y)
  obtain ⟨g2, hsg2⟩ : ∃ s, s = bL (leB r.tag 2) := ⟨_, rfl⟩
  have qg2 : g2.size = 2 := by rw [hsg2, bL_size, leB_length]
  have Hg2 := hid (show ∀ y : World, Calls Tryz.prog 48 #[.int .i64 (r.tag : Int), .int .i64 2] y (fun e w' => e = .returned (.string g2) ∧ Below y.heap.size y w') from fun y => by rw [hsg2]; exact rn_any (r.tag : Int) 2 (by omega) (by have := hk1.tag; omega) (.inr (.inl rfl)) y)
  obtain ⟨d2, hsd2⟩ : ∃ s, s = bL (leB r.delay 2) := ⟨_, rfl⟩
  have qd2 : d2.size = 2 := by rw [hsd2, bL_size, leB_length]
  have Hd2 := hid (show ∀ y : World, Calls Tryz.prog 48 #[.int .i64 (r.delay : Int), .int .i64 2] y (fun e w' => e = .returned (.string d2) ∧ Below y.heap.size y w') from fun y => by rw [hsd2]; exact rn_any (r.delay : Int) 2 (by omega) (by have := hk1.delay; omega) (.inr (.inl rfl)) y)
  obtain ⟨h4, hsh4⟩ : ∃ s, s = bL (leB r.height 4) := ⟨_, rfl⟩
  have qh4 : h4.size = 4 := by rw [hsh4, bL_size, leB_length]
  have Hh4 := hid (show ∀ y : World, Calls Tryz.prog 48 #[.int .i64 (r.height : Int), .int .i64 4] y (fun e w' => e = .returned (.string h4) ∧ Below y.heap.size y w') from fun y => by rw [hsh4]; exact rn_any (r.height : Int) 4 (by omega) (by have := hk1.height; omega) (.inr (.inr (.inl rfl))) y)
  obtain ⟨e4, hse4⟩ : ∃ s, s = bL (leB r.dead.toNat 4) := ⟨_, rfl⟩
  have qe4 : e4.size = 4 := by rw [hse4, bL_size, leB_length]
  have He4 := hid (show ∀ y : World, Calls Tryz.prog 48 #[.int .i64 r.dead, .int .i64 4] y (fun e w' => e = .returned (.string e4) ∧ Below y.heap.size y w') from fun y => by rw [hse4]; exact rn_any r.dead 4 hg.dead.1 hk1.dead.2 (.inr (.inr (.inl rfl))) y)
  obtain ⟨m8, hsm8⟩ : ∃ s, s = bL (leB r.budget.toNat 8) := ⟨_, rfl⟩
  have qm8 : m8.size = 8 := by rw [hsm8, bL_size, leB_length]
  have Hm8 := hid (show ∀ y : World, Calls Tryz.prog 48 #[.int .i64 r.budget, .int .i64 8] y (fun e w' => e = .returned (.string m8) ∧ Below y.heap.size y w') from fun y => by rw [hsm8]; exact rn_any r.budget 8 hg.budget.1 hk1.budget.2 (.inr (.inr (.inr rfl))) y)
  obtain ⟨s4, hss4⟩ : ∃ s, s = bL (leB r.start.toNat 4) := ⟨_, rfl⟩
  have qs4 : s4.size = 4 := by rw [hss4, bL_size, leB_length]
  have Hs4 := hid (show ∀ y : World, Calls Tryz.prog 48 #[.int .i64 r.start, .int .i64 4] y (fun e w' => e = .returned (.string s4) ∧ Below y.heap.size y w') from fun y => by rw [hss4]; exact rn_any r.start 4 hg.start.1 hk1.start.2 (.inr (.inr (.inl rfl))) y)
  have HS := hid (show p1 ++ p2 ++ r.id ++ x4 ++ v8 ++ b1 ++ g2 ++ d2 ++ h4 ++ e4 ++ m8 ++ s4 = bL (payL r) from by
    rw [hsp1, hsp2, hsx4, hsv8, hsb1, hsg2, hsd2, hsh4, hse4, hsm8, hss4, ← bL_data r.id]
    simp only [bL_app]
    unfold payL bodyL
    rw [if_neg (by omega), if_pos hk]
    simp only [pointL, wishL, hk, bL_list, List.append_assoc, List.append_nil])
  rw [hk]
  clear hg hk hk1 hi1 ho1 hn1 hn2 HI HO HK hsp1 hsp2 hsx4 hsv8 hsb1 hsg2 hsd2 hsh4 hse4 hsm8 hss4
  go_enter Tryz.func47, Tryz.ntmps47
  go_upto_region 1 with fail
  have hz := heap_alloc_new w (.cells #[.int .i64 2, .int .i64 r.num, .int .u32 r.tx.ver, .slice ia n1 ic, .slice oa n2 oc, .int .u32 r.tx.lock, .int .i64 r.index, .string r.id, .int .u32 r.idx, .int .i64 r.val, .int .i64 r.br, .int .u16 r.tag, .int .u16 r.delay, .int .u32 r.height, .int .i64 r.dead, .int .i64 r.budget, .int .i64 r.start, .int .i64 r.fee] 35)
  have hal : Below w.heap.size w (w.alloc (.cells #[.int .i64 2, .int .i64 r.num, .int .u32 r.tx.ver, .slice ia n1 ic, .slice oa n2 oc, .int .u32 r.tx.lock, .int .i64 r.index, .string r.id, .int .u32 r.idx, .int .i64 r.val, .int .i64 r.br, .int .u16 r.tag, .int .u16 r.delay, .int .u32 r.height, .int .i64 r.dead, .int .i64 r.budget, .int .i64 r.start, .int .i64 r.fee] 35)) := (Below.refl _ _).alloc (Nat.le_refl _) _
  obtain ⟨X, hX⟩ : ∃ q, q = w.heap.size := ⟨_, rfl⟩
  rw [← hX] at hz ⊢
  generalize w.alloc (.cells #[.int .i64 2, .int .i64 r.num, .int .u32 r.tx.ver, .slice ia n1 ic, .slice oa n2 oc, .int .u32 r.tx.lock, .int .i64 r.index, .string r.id, .int .u32 r.idx, .int .i64 r.val, .int .i64 r.br, .int .u16 r.tag, .int .u16 r.delay, .int .u32 r.height, .int .i64 r.dead, .int .i64 r.budget, .int .i64 r.start, .int .i64 r.fee] 35) = w0 at *
  have HB := hid hal
  have x0 : w0.cell? ⟨X, 0, none⟩ = some (.int .i64 2) := cell_at hz
  have x1 : w0.cell? ⟨X, 1, none⟩ = some (.int .i64 r.num) := cell_at hz
  have x7 : w0.cell? ⟨X, 7, none⟩ = some (.string r.id) := cell_at hz
  have x8 : w0.cell? ⟨X, 8, none⟩ = some (.int .u32 r.idx) := cell_at hz
  have x9 : w0.cell? ⟨X, 9, none⟩ = some (.int .i64 r.val) := cell_at hz
  have x10 : w0.cell? ⟨X, 10, none⟩ = some (.int .i64 r.br) := cell_at hz
  have x11 : w0.cell? ⟨X, 11, none⟩ = some (.int .u16 r.tag) := cell_at hz
  have x12 : w0.cell? ⟨X, 12, none⟩ = some (.int .u16 r.delay) := cell_at hz
  have x13 : w0.cell? ⟨X, 13, none⟩ = some (.int .u32 r.height) := cell_at hz
  have x14 : w0.cell? ⟨X, 14, none⟩ = some (.int .i64 r.dead) := cell_at hz
  have x15 : w0.cell? ⟨X, 15, none⟩ = some (.int .i64 r.budget) := cell_at hz
  have x16 : w0.cell? ⟨X, 16, none⟩ = some (.int .i64 r.start) := cell_at hz
  clear hz hal hX
  go_wp2_with fail
  refine (Hp1.out w0).mono ?_
  rintro e w1 ⟨rfl, hb⟩
  replace x0 := below_cells hb _ _ x0
  replace x1 := below_cells hb _ _ x1
  replace x7 := below_cells hb _ _ x7
  replace x8 := below_cells hb _ _ x8
  replace x9 := below_cells hb _ _ x9
  replace x10 := below_cells hb _ _ x10
  replace x11 := below_cells hb _ _ x11
  replace x12 := below_cells hb _ _ x12
  replace x13 := below_cells hb _ _ x13
  replace x14 := below_cells hb _ _ x14
  replace x15 := below_cells hb _ _ x15
  replace x16 := below_cells hb _ _ x16
  have HB := hid (HB.out.trans (hb.mono HB.out.size))
  clear hb
  go_wp2_with fail
  refine (Hp2.out w1).mono ?_
  rintro e w2 ⟨rfl, hb⟩
  replace x0 := below_cells hb _ _ x0
  replace x1 := below_cells hb _ _ x1
  replace x7 := below_cells hb _ _ x7
  replace x8 := below_cells hb _ _ x8
  replace x9 := below_cells hb _ _ x9
  replace x10 := below_cells hb _ _ x10
  replace x11 := below_cells hb _ _ x11
  replace x12 := below_cells hb _ _ x12
  replace x13 := below_cells hb _ _ x13
  replace x14 := below_cells hb _ _ x14
  replace x15 := below_cells hb _ _ x15
  replace x16 := below_cells hb _ _ x16
  have HB := hid (HB.out.trans (hb.mono HB.out.size))
  clear hb
  go_wp2_with fail
  refine (Hx4.out w2).mono ?_
  rintro e w3 ⟨rfl, hb⟩
  replace x0 := below_cells hb _ _ x0
  replace x1 := below_cells hb _ _ x1
  replace x7 := below_cells hb _ _ x7
  replace x8 := below_cells hb _ _ x8
  replace x9 := below_cells hb _ _ x9
  replace x10 := below_cells hb _ _ x10
  replace x11 := below_cells hb _ _ x11
  replace x12 := below_cells hb _ _ x12
  replace x13 := below_cells hb _ _ x13
  replace x14 := below_cells hb _ _ x14
  replace x15 := below_cells hb _ _ x15
  replace x16 := below_cells hb _ _ x16
  have HB := hid (HB.out.trans (hb.mono HB.out.size))
  clear hb
  go_wp2_with fail
  refine (Hv8.out w3).mono ?_
  rintro e w4 ⟨rfl, hb⟩
  replace x0 := below_cells hb _ _ x0
  replace x1 := below_cells hb _ _ x1
  replace x7 := below_cells hb _ _ x7
  replace x8 := below_cells hb _ _ x8
  replace x9 := below_cells hb _ _ x9
  replace x10 := below_cells hb _ _ x10
  replace x11 := below_cells hb _ _ x11
  replace x12 := below_cells hb _ _ x12
  replace x13 := below_cells hb _ _ x13
  replace x14 := below_cells hb _ _ x14
  replace x15 := below_cells hb _ _ x15
  replace x16 := below_cells hb _ _ x16
  have HB := hid (HB.out.trans (hb.mono HB.out.size))
  clear hb
  go_wp2_with fail
  refine (Hb1.out w4).mono ?_
  rintro e w5 ⟨rfl, hb⟩
  replace x0 := below_cells hb _ _ x0
  replace x1 := below_cells hb _ _ x1
  replace x7 := below_cells hb _ _ x7
  replace x8 := below_cells hb _ _ x8
  replace x9 := below_cells hb _ _ x9
  replace x10 := below_cells hb _ _ x10
  replace x11 := below_cells hb _ _ x11
  replace x12 := below_cells hb _ _ x12
  replace x13 := below_cells hb _ _ x13
  replace x14 := below_cells hb _ _ x14
  replace x15 := below_cells hb _ _ x15
  replace x16 := below_cells hb _ _ x16
  have HB := hid (HB.out.trans (hb.mono HB.out.size))
  clear hb
  go_wp2_with fail
  refine (Hg2.out w5).mono ?_
  rintro e w6 ⟨rfl, hb⟩
  replace x0 := below_cells hb _ _ x0
  replace x1 := below_cells hb _ _ x1
  replace x7 := below_cells hb _ _ x7
  replace x8 := below_cells hb _ _ x8
  replace x9 := below_cells hb _ _ x9
  replace x10 := below_cells hb _ _ x10
  replace x11 := below_cells hb _ _ x11
  replace x12 := below_cells hb _ _ x12
  replace x13 := below_cells hb _ _ x13
  replace x14 := below_cells hb _ _ x14
  replace x15 := below_cells hb _ _ x15
  replace x16 := below_cells hb _ _ x16
  have HB := hid (HB.out.trans (hb.mono HB.out.size))
  clear hb
  go_wp2_with fail
  refine (Hd2.out w6).mono ?_
  rintro e w7 ⟨rfl, hb⟩
  replace x0 := below_cells hb _ _ x0
  replace x1 := below_cells hb _ _ x1
  replace x7 := below_cells hb _ _ x7
  replace x8 := below_cells hb _ _ x8
  replace x9 := below_cells hb _ _ x9
  replace x10 := below_cells hb _ _ x10
  replace x11 := below_cells hb _ _ x11
  replace x12 := below_cells hb _ _ x12
  replace x13 := below_cells hb _ _ x13
  replace x14 := below_cells hb _ _ x14
  replace x15 := below_cells hb _ _ x15
  replace x16 := below_cells hb _ _ x16
  have HB := hid (HB.out.trans (hb.mono HB.out.size))
  clear hb
  go_wp2_with fail
  refine (Hh4.out w7).mono ?_
  rintro e w8 ⟨rfl, hb⟩
  replace x0 := below_cells hb _ _ x0
  replace x1 := below_cells hb _ _ x1
  replace x7 := below_cells hb _ _ x7
  replace x8 := below_cells hb _ _ x8
  replace x9 := below_cells hb _ _ x9
  replace x10 := below_cells hb _ _ x10
  replace x11 := below_cells hb _ _ x11
  replace x12 := below_cells hb _ _ x12
  replace x13 := below_cells hb _ _ x13
  replace x14 := below_cells hb _ _ x14
  replace x15 := below_cells hb _ _ x15
  replace x16 := below_cells hb _ _ x16
  have HB := hid (HB.out.trans (hb.mono HB.out.size))
  clear hb
  go_wp2_with fail
  refine (He4.out w8).mono ?_
  rintro e w9 ⟨rfl, hb⟩
  replace x0 := below_cells hb _ _ x0
  replace x1 := below_cells hb _ _ x1
  replace x7 := below_cells hb _ _ x7
  replace x8 := below_cells hb _ _ x8
  replace x9 := below_cells hb _ _ x9
  replace x10 := below_cells hb _ _ x10
  replace x11 := below_cells hb _ _ x11
  replace x12 := below_cells hb _ _ x12
  replace x13 := below_cells hb _ _ x13
  replace x14 := below_cells hb _ _ x14
  replace x15 := below_cells hb _ _ x15
  replace x16 := below_cells hb _ _ x16
  have HB := hid (HB.out.trans (hb.mono HB.out.size))
  clear hb
  go_wp2_with fail
  refine (Hm8.out w9).mono ?_
  rintro e w10 ⟨rfl, hb⟩
  replace x0 := below_cells hb _ _ x0
  replace x1 := below_cells hb _ _ x1
  replace x7 := below_cells hb _ _ x7
  replace x8 := below_cells hb _ _ x8
  replace x9 := below_cells hb _ _ x9
  replace x10 := below_cells hb _ _ x10
  replace x11 := below_cells hb _ _ x11
  replace x12 := below_cells hb _ _ x12
  replace x13 := below_cells hb _ _ x13
  replace x14 := below_cells hb _ _ x14
  replace x15 := below_cells hb _ _ x15
  replace x16 := below_cells hb _ _ x16
  have HB := hid (HB.out.trans (hb.mono HB.out.size))
  clear hb
  go_wp2_with fail
  refine (Hs4.out w10).mono ?_
  rintro e w11 ⟨rfl, hb⟩
  replace x0 := below_cells hb _ _ x0
  replace x1 := below_cells hb _ _ x1
  replace x7 := below_cells hb _ _ x7
  replace x8 := below_cells hb _ _ x8
  replace x9 := below_cells hb _ _ x9
  replace x10 := below_cells hb _ _ x10
  replace x11 := below_cells hb _ _ x11
  replace x12 := below_cells hb _ _ x12
  replace x13 := below_cells hb _ _ x13
  replace x14 := below_cells hb _ _ x14
  replace x15 := below_cells hb _ _ x15
  replace x16 := below_cells hb _ _ x16
  have HB := hid (HB.out.trans (hb.mono HB.out.size))
  clear hb
  go_wp2_with fail
  go_ret
  exact ⟨congrArg (fun s => Ending.returned (.string s)) HS.out, HB.out⟩
end Go.Proofs.YtaooibocknemkaaGreat
end
