/-
  ClaimBuilds, part 10: the texts Cb, Cd, Km, one after another. Conditions: none beyond those named at each.
-/
import Derived.Test.YtmakghcoehkphaaGreatQ8ClaimBuilds
import Derived.Test.YtmakghcoehkphaaGreatQ2ClaimBuilds
import Derived.Test.YtmakghcoehkphaaGreatQ6ClaimBuilds
import Derived.Test.YtmakghcoehkphaaGreatQ7ClaimBuilds
import Derived.Test.YtmakghcoehkphaaGreatQ5ClaimBuilds
import Derived.Test.YtmakghcoehkphaaGreatKg
import Derived.Test.YtmakghcoehkphaaGreatCut
import Derived.Deep.RegionHeld
section
/-
  Dust, both ways, and which of two rates is greater. Conditions: an output is one.
-/
namespace Go.Proofs.YtmakghcoehkphaaGreat
open Go.RowKit Go.BigFrame
set_option linter.unusedVariables false
set_option linter.unusedSimpArgs false

def PBs (z : Int × Int) (w : World) (e : Ending) (w' : World) : Prop := e = .returned (.tuple #[.int .i64 z.1, .int .i64 z.2]) ∧ Below w.heap.size w w'
def sizeD (n : Nat) : Int × Int := if 40 < n then (0, 20) else (9 + n, 0)
theorem fee_least {n : Nat} (h : ¬ 40 < n) : feeE 3000 (9 + (n : Int) + 67) = (3 * (n : Int) + 228, 0) := by
  unfold feeE
  rw [if_pos (by omega)]
  congr 1
  omega
theorem below_box {w w1 : World} {ob : Obj} (hb : Below (w.alloc ob).heap.size (w.alloc ob) w1) : Below w.heap.size w w1 := ((Below.refl _ _).alloc (Nat.le_refl _) _).trans (hb.mono (by simp))
set_option maxRecDepth 100000 in
set_option maxHeartbeats 1000000 in
theorem dsize_any (v : Value) (x : POut) (w : World) (hv : OutAt w v x) : Calls Tryz.prog 93 #[v] w (PBs (sizeD x.script.size) w) := by
  obtain ⟨rfl, -, h2⟩ := hv
  rw [maxLen_eq] at h2
  by_cases h : 40 < x.script.size
  · rw [show sizeD x.script.size = (0, 20) from if_pos h]
    go_enter Tryz.func93, Tryz.ntmps93
    go_wp2_with fail
    go_ret2
    exact ⟨rfl, (Below.refl _ _).alloc (Nat.le_refl _) _⟩
  · have HE := Lib.hid (show sizeD x.script.size = (9 + (x.script.size : Int), 0) from if_neg h)
    have hs : (bL (vintL x.script.size)).size = 1 := by rw [bL_size, len1 _ (by omega)]
    go_enter Tryz.func93, Tryz.ntmps93
    go_wp2_with fail
    refine (vput_any x.script.size (by omega) _).mono ?_
    rintro e w1 ⟨rfl, hb⟩
    have HB := Lib.hid (below_box hb)
    clear hb
    go_wp2_with fail
    go_ret2
    exact ⟨by rw [HE.out]; first | rfl | (congr 3; omega), HB.out⟩
set_option maxRecDepth 100000 in
set_option maxHeartbeats 1000000 in
theorem rdsize_any (v : Value) (x : POut) (w : World) (hv : OutAt w v x) : Calls Tryz.prog 103 #[v] w (PBs (sizeD x.script.size) w) := by
  obtain ⟨rfl, -, h2⟩ := hv
  rw [maxLen_eq] at h2
  have hz := heap_alloc_new w (.cells #[.int .i64 x.val, .string x.script] 38)
  by_cases h : 40 < x.script.size
  · rw [show sizeD x.script.size = (0, 20) from if_pos h]
    go_enter Tryz.func103, Tryz.ntmps103
    go_wp2_with fail
    go_ret2
    exact ⟨rfl, (Below.refl _ _).alloc (Nat.le_refl _) _⟩
  · have HE := Lib.hid (show sizeD x.script.size = (9 + (x.script.size : Int), 0) from if_neg h)
    have hs : (bL (vintL x.script.size)).size = 1 := by rw [bL_size, len1 _ (by omega)]
    go_enter Tryz.func103, Tryz.ntmps103
    go_upto_region 1 with fail
    have hal : Below w.heap.size w (w.alloc (.cells #[.int .i64 x.val, .string x.script] 38)) := (Below.refl _ _).alloc (Nat.le_refl _) _
    have HAL := Lib.hid hal
    clear hal
    generalize w.alloc (.cells #[.int .i64 x.val, .string x.script] 38) = w0 at *
    have c1 : w0.cell? ⟨w.heap.size, 1, none⟩ = some (.string x.script) := cell_at hz
    clear hz
    go_wp2_with fail
    refine (rvput_any x.script.size (by omega) _).mono ?_
    rintro e w1 ⟨rfl, hb⟩
    replace c1 := below_cells hb _ _ c1
    have HB := Lib.hid (HAL.out.trans (hb.mono HAL.out.size))
    clear hb
    go_wp2_with fail
    go_ret2
    exact ⟨by rw [HE.out]; first | rfl | (congr 3; omega), HB.out⟩
set_option maxRecDepth 100000 in
set_option maxHeartbeats 1000000 in
theorem dleast_any (v : Value) (x : POut) (w : World) (hv : OutAt w v x) : Calls Tryz.prog 68 #[v] w (PBs (leastE x.script.size) w) := by
  obtain ⟨rfl, hv1, h2⟩ := hv
  have HQ := Lib.hid (fun y => dsize_any _ x y ⟨rfl, hv1, h2⟩)
  rw [maxLen_eq] at h2
  by_cases h : 40 < x.script.size
  · rw [show leastE x.script.size = (0, 20) from if_pos h]
    rw [show sizeD x.script.size = (0, 20) from if_pos h] at HQ
    go_enter Tryz.func68, Tryz.ntmps68
    go_wp2_with fail
    refine (HQ.out _).mono ?_
    rintro e w1 ⟨rfl, hb⟩
    have HB := Lib.hid (below_box hb)
    clear hb
    go_wp2_with fail
    go_ret2
    exact ⟨rfl, HB.out⟩
  · rw [show leastE x.script.size = (3 * (x.script.size : Int) + 228, 0) from if_neg h]
    rw [show sizeD x.script.size = (9 + (x.script.size : Int), 0) from if_neg h] at HQ
    have HF := Lib.hid (fun y => fee_any 3000 (9 + (x.script.size : Int) + 67) y)
    rw [fee_least h] at HF
    go_enter Tryz.func68, Tryz.ntmps68
    go_wp2_with fail
    refine (HQ.out _).mono ?_
    rintro e w1 ⟨rfl, hb⟩
    have HB := Lib.hid (below_box hb)
    clear hb
    go_wp2_with fail
    refine (HF.out _).mono ?_
    rintro e w2 ⟨rfl, rfl⟩
    go_wp2_with fail
    go_ret2
    exact ⟨rfl, HB.out⟩
set_option maxRecDepth 100000 in
set_option maxHeartbeats 1000000 in
theorem rdleast_any (v : Value) (x : POut) (w : World) (hv : OutAt w v x) : Calls Tryz.prog 74 #[v] w (PBs (leastE x.script.size) w) := by
  obtain ⟨rfl, hv1, h2⟩ := hv
  have HQ := Lib.hid (fun y => rdsize_any _ x y ⟨rfl, hv1, h2⟩)
  rw [maxLen_eq] at h2
  by_cases h : 40 < x.script.size
  · rw [show leastE x.script.size = (0, 20) from if_pos h]
    rw [show sizeD x.script.size = (0, 20) from if_pos h] at HQ
    go_enter Tryz.func74, Tryz.ntmps74
    go_wp2_with fail
    refine (HQ.out _).mono ?_
    rintro e w1 ⟨rfl, hb⟩
    have HB := Lib.hid (below_box hb)
    clear hb
    go_wp2_with fail
    go_ret2
    exact ⟨rfl, HB.out⟩
  · rw [show leastE x.script.size = (3 * (x.script.size : Int) + 228, 0) from if_neg h]
    rw [show sizeD x.script.size = (9 + (x.script.size : Int), 0) from if_neg h] at HQ
    have HF := Lib.hid (fun y => rfee_any 3000 (9 + (x.script.size : Int) + 67) y)
    rw [fee_least h] at HF
    go_enter Tryz.func74, Tryz.ntmps74
    go_wp2_with fail
    refine (HQ.out _).mono ?_
    rintro e w1 ⟨rfl, hb⟩
    have HB := Lib.hid (below_box hb)
    clear hb
    go_wp2_with fail
    refine (HF.out _).mono ?_
    rintro e w2 ⟨rfl, rfl⟩
    go_wp2_with fail
    go_ret2
    exact ⟨rfl, HB.out⟩
set_option maxRecDepth 100000 in
set_option maxHeartbeats 1000000 in
theorem dust_any (v : Value) (x : POut) (w : World) (hv : OutAt w v x) : Calls Tryz.prog 37 #[v] w (BIs (isDust x) w) := by
  obtain ⟨rfl, hv1, h2⟩ := hv
  have HQ := Lib.hid (fun y => dleast_any _ x y ⟨rfl, hv1, h2⟩)
  have hz := heap_alloc_new w (.cells #[.int .i64 x.val, .string x.script] 38)
  have HAL := Lib.hid (show Below w.heap.size w (w.alloc (.cells #[.int .i64 x.val, .string x.script] 38)) from (Below.refl _ _).alloc (Nat.le_refl _) _)
  rw [maxLen_eq] at h2
  obtain ⟨r, hr⟩ : ∃ r, r = isDust x := ⟨_, rfl⟩
  rw [← hr]
  unfold isDust at hr
  go_enter Tryz.func37, Tryz.ntmps37
  go_upto_region 1 with fail
  generalize w.alloc (.cells #[.int .i64 x.val, .string x.script] 38) = w0 at *
  have c0 : w0.cell? ⟨w.heap.size, 0, none⟩ = some (.int .i64 x.val) := cell_at hz
  have c1 : w0.cell? ⟨w.heap.size, 1, none⟩ = some (.string x.script) := cell_at hz
  clear hz
  by_cases h : 40 < x.script.size
  · rw [show leastE x.script.size = (0, 20) from if_pos h] at HQ
    have HR := Lib.hid (show r = false by rw [hr, decide_eq_false (by omega)]; rfl)
    clear hr
    go_wp2_with fail
    refine (HQ.out _).mono ?_
    rintro e w1 ⟨rfl, hb⟩
    replace c0 := below_cells hb _ _ c0
    replace c1 := below_cells hb _ _ c1
    have HAL := Lib.hid (HAL.out.trans (hb.mono HAL.out.size))
    clear hb
    go_wp2_with fail
    go_ret
    exact ⟨by rw [HR.out]; rfl, HAL.out⟩
  · rw [show leastE x.script.size = (3 * (x.script.size : Int) + 228, 0) from if_neg h] at HQ
    have HR := Lib.hid (show r = decide (x.val < 3 * (x.script.size : Int) + 228) by rw [hr, decide_eq_true (by omega)]; rfl)
    clear hr
    go_wp2_with fail
    refine (HQ.out _).mono ?_
    rintro e w1 ⟨rfl, hb⟩
    replace c0 := below_cells hb _ _ c0
    replace c1 := below_cells hb _ _ c1
    have HAL := Lib.hid (HAL.out.trans (hb.mono HAL.out.size))
    clear hb
    go_wp2_with fail
    go_ret
    exact ⟨by rw [HR.out]; rfl, HAL.out⟩

/-- The place of the first Out that is dust; -1: none. -/
def firstD : List POut → Nat → Int
  | [], _ => -1
  | x :: r, i => if isDust x then (i : Int) else firstD r (i + 1)
theorem first_step {l : List POut} {k : Nat} {x : POut} (h : l[k]? = some x) : firstD (l.drop k) k = if isDust x then (k : Int) else firstD (l.drop (k + 1)) (k + 1) := by
  obtain ⟨h1, h2⟩ := List.getElem?_eq_some_iff.1 h
  rw [List.drop_eq_getElem_cons h1, h2]
  rfl
set_option maxRecDepth 100000 in
set_option maxHeartbeats 2000000 in
theorem rfirst_any (v : Value) (t : PTx) (w : World) (hv : TxAt w v t) : Calls Tryz.prog 42 #[v] w (CIs' (firstD t.outs 0) w) := by
  obtain ⟨va, vo, rfl, hia, hob, hv1, hv2⟩ := hv
  obtain ⟨a, c, rfl, hl1, hl2⟩ := hia.shape
  obtain ⟨a', c', rfl, hl1', hl2'⟩ := hob.shape
  rw [maxLen_eq] at hl2 hl2'
  have htb := TB.start hia hob
  have HTB := Lib.hid htb
  clear htb hia hob hv1 hv2
  obtain ⟨r, hr⟩ : ∃ r, r = firstD t.outs 0 := ⟨_, rfl⟩
  rw [← hr]
  have HR := Lib.hid hr
  clear hr
  obtain ⟨n, hn⟩ : ∃ n, n = t.ins.length := ⟨_, rfl⟩
  obtain ⟨n', hn'⟩ : ∃ n, n = t.outs.length := ⟨_, rfl⟩
  rw [← hn, ← hn'] at HTB
  rw [← hn] at hl1 ⊢
  rw [← hn'] at hl1' ⊢
  have HN' := Lib.hid hn'
  clear hn hn'
  go_enter Tryz.func42, Tryz.ntmps42
  go_upto_region 1 with fail
  generalize w.alloc (.cells #[.int .u32 t.ver, .slice a n c, .slice a' n' c', .int .u32 t.lock] 44) = w0 at *
  go_wp2_with fail
  go_loopg [3] n' (fun g i wr => ∃ (k : Nat), g = n' - k ∧ k ≤ n' ∧ i = .int .i64 k ∧ TB w (.slice a n c) (.slice a' n' c') t wr ∧ r = firstD (t.outs.drop k) k)
  case atStart => exact ⟨0, rfl, by omega, rfl, HTB.out, HR.out⟩
  case round =>
    clear HTB HR
    rename World => wo
    obtain ⟨k, hgk, hk, rfl, htb, hr⟩ := hrel
    have HGK := Lib.hid hgk
    have HTB := Lib.hid htb
    have HR := Lib.hid hr
    have c2 : wo.cell? ⟨w.heap.size, 2, none⟩ = some (.slice a' n' c') := cell_at htb.box
    clear hgk htb hr
    by_cases hlt : k < n'
    · obtain ⟨b, o, x, rfl, hx, hok, d0, d1⟩ := HTB.out.outs.outp hlt
      have hst := first_step hx
      have HQ := Lib.hid (fun y => rdleast_any _ x y ⟨rfl, hok⟩)
      obtain ⟨hok1, h2⟩ := hok
      rw [maxLen_eq] at h2
      clear hx
      by_cases h : 40 < x.script.size
      · rw [show leastE x.script.size = (0, 20) from if_pos h] at HQ
        rw [if_neg (by unfold isDust; rw [decide_eq_false (by omega)]; simp)] at hst
        have HST := Lib.hid hst
        clear hst
        go_wp2_with fail
        refine (HQ.out _).mono ?_
        rintro e w1 ⟨rfl, hb⟩
        replace c2 := below_cells hb _ _ c2
        replace d0 := below_cells hb _ _ d0
        replace d1 := below_cells hb _ _ d1
        have HTB := Lib.hid (HTB.out.next hb)
        clear hb
        go_wp2_with fail
        go_roundg (n' - (k + 1))
        case measure => have := HGK.out; omega
        case rel => exact ⟨k + 1, rfl, by omega, by go_num, HTB.out, HR.out.trans HST.out⟩
      · rw [show leastE x.script.size = (3 * (x.script.size : Int) + 228, 0) from if_neg h] at HQ
        by_cases hd : x.val < 3 * (x.script.size : Int) + 228
        · rw [if_pos (by unfold isDust; rw [decide_eq_true (by omega), decide_eq_true hd]; rfl)] at hst
          have HST := Lib.hid hst
          clear hst
          go_wp2_with fail
          refine (HQ.out _).mono ?_
          rintro e w1 ⟨rfl, hb⟩
          replace c2 := below_cells hb _ _ c2
          replace d0 := below_cells hb _ _ d0
          replace d1 := below_cells hb _ _ d1
          have HTB := Lib.hid (HTB.out.next hb)
          clear hb
          go_wp2_with fail
          go_ret
          exact ⟨by rw [HR.out, HST.out]; rfl, HTB.out.bel⟩
        · rw [if_neg (by unfold isDust; rw [decide_eq_false hd]; simp)] at hst
          have HST := Lib.hid hst
          clear hst
          go_wp2_with fail
          refine (HQ.out _).mono ?_
          rintro e w1 ⟨rfl, hb⟩
          replace c2 := below_cells hb _ _ c2
          replace d0 := below_cells hb _ _ d0
          replace d1 := below_cells hb _ _ d1
          have HTB := Lib.hid (HTB.out.next hb)
          clear hb
          go_wp2_with fail
          go_roundg (n' - (k + 1))
          case measure => have := HGK.out; omega
          case rel => exact ⟨k + 1, rfl, by omega, by go_num, HTB.out, HR.out.trans HST.out⟩
    · obtain rfl : k = n' := by omega
      have HF := Lib.hid (show r = -1 by rw [HR.out, List.drop_of_length_le (by rw [HN'.out]; exact Nat.le_refl _)]; rfl)
      go_wp2_with fail
      go_ret
      exact ⟨by rw [HF.out]; rfl, HTB.out.bel⟩
end Go.Proofs.YtmakghcoehkphaaGreat
end

section
/-
  What a child is made of, both ways. Conditions: the claim's numbers are ones of their kinds, its branch may be.
-/
namespace Go.Proofs.YtmakghcoehkphaaGreat
open Go.RowKit Go.BigFrame
set_option linter.unusedVariables false
set_option linter.unusedSimpArgs false

/-! ### the script -/
/-! ### the transaction -/
theorem seq_any (tg dl hg : Nat) (w : World) (hd : dl < 65536) : Calls Tryz.prog 67 #[.agg #[.int .u16 tg, .int .u16 dl, .int .u32 hg]] w fun e w' => e = .returned (.int .u32 (seqOf dl)) ∧ Below w.heap.size w w' :=
  (sequence_any tg dl hg w hd).mono fun e w' ⟨h1, h2⟩ => ⟨by rw [h1]; unfold seqOf; split <;> rfl, h2⟩
theorem seqOf_lt {d : Nat} (h : d < 65536) : seqOf d < 4294967296 := by unfold seqOf; split <;> omega

/-- A row of one text. -/
theorem sl_box {w : World} {b : Nat} {s : ByteArray} {t : TypeId} (h : w.heap[b]? = some (.cells #[.string s] t (0, 0))) (hs : s.size ≤ maxLen) : SlAt rpStr w (.slice (some ⟨b, 0, none⟩) 1 1) [s] := by
  refine ⟨_, 1, rfl, Nat.le_refl _, by decide, fun i x hi => ?_⟩
  match i, hi with
  | 0, hi =>
    obtain rfl := Option.some.inj hi
    refine ⟨b, 0, [.string s], rfl, rfl, fun j u hj => ?_, rfl, hs⟩
    rw [cell_at h]
    match j, hj with
    | 0, hj => exact hj
def NewStr (w : World) (s : ByteArray) (v : Value) (w' : World) : Prop := ∃ b, v = .slice (some ⟨b, 0, none⟩) 1 1 ∧ w.heap.size ≤ b ∧ w'.heap[b]? = some (.cells #[.string s] 9 (0, 0)) ∧ Below w.heap.size w w'
set_option maxRecDepth 100000 in
set_option maxHeartbeats 1000000 in
theorem sign_new (n t : Nat) (h : n < 3) (ht : t < 65536) (w : World) : Calls Tryz.prog 92 #[.int .i64 n, .int .u16 t] w fun e w' => ∃ v, e = .returned (.tuple #[v, .int .i64 0]) ∧ NewStr w (signW n t) v w' := by
  go_enter Tryz.func92, Tryz.ntmps92
  go_wp2_with fail
  refine (put1_any n (by omega) _).mono ?_
  rintro e w1 ⟨rfl, hb1⟩
  have HB1 := Lib.hid hb1
  clear hb1
  go_wp2_with fail
  refine (put2_any t (by omega) _).mono ?_
  rintro e w2 ⟨rfl, hb2⟩
  have HB2 := Lib.hid hb2
  clear hb2
  go_wp2
  go_ret2
  have h12 := HB1.out.trans (HB2.out.mono HB1.out.size)
  exact ⟨_, rfl, _, rfl, h12.size, heap_alloc_new w2 _, h12.alloc h12.size _⟩
set_option maxRecDepth 100000 in
set_option maxHeartbeats 1000000 in
theorem rsign_new (n t : Nat) (h : n < 3) (ht : t < 65536) (w : World) : Calls Tryz.prog 41 #[.int .i64 n, .int .u16 t] w fun e w' => ∃ v, e = .returned v ∧ NewStr w (signW n t) v w' := by
  have hcv := three_bytes w n (t % 256) (t / 256) (by omega) (by omega) (by omega)
  have e1 : (t : Int).tmod 256 = ((t % 256 : Nat) : Int) := by rw [Int.tmod_eq_emod_of_nonneg (by omega)]; omega
  have e2 : (t : Int).tdiv 256 = ((t / 256 : Nat) : Int) := by rw [Int.tdiv_eq_ediv_of_nonneg (by omega)]; omega
  have hq : t / 256 < 256 := by omega
  have hr : t % 256 < 256 := by omega
  have hw : signW n t = ⟨[UInt8.ofNat n, UInt8.ofNat (t % 256), UInt8.ofNat (t / 256)].toArray⟩ := by
    unfold signW
    congr 2
    have h8 : UInt8.ofNat t = UInt8.ofNat (t % 256) := UInt8.toNat_inj.1 (by simp)
    simp [leB, ← h8]
  have HW := Lib.hid hw
  clear hw
  generalize t % 256 = r at *
  generalize t / 256 = q at *
  go_enter Tryz.func41, Tryz.ntmps41
  go_wp2
  go_ret
  have hz := heap_alloc_new (w.alloc (.cells #[.int .u8 n, .int .u8 r, .int .u8 q] 5)) (.cells #[.string ⟨[UInt8.ofNat n, UInt8.ofNat r, UInt8.ofNat q].toArray⟩] 9)
  rw [← HW.out] at hz ⊢
  rw [show (w.alloc (.cells #[.int .u8 n, .int .u8 r, .int .u8 q] 5)).heap.size = w.heap.size + 1 by simp] at hz
  exact ⟨_, rfl, _, rfl, by simp, hz, ((Below.refl _ _).alloc (Nat.le_refl _) _).alloc (by simp) _⟩

/-- A transaction in blocks from base on: at each world that has these. -/
def TxNew (base : Nat) (w : World) (v : Value) (t : PTx) : Prop := ∀ w' : World, (∀ b, base ≤ b → b < w.heap.size → w'.heap[b]? = w.heap[b]?) → TxAt w' v t
section
variable {base : Nat} {w w' : World} {v : Value} {t : PTx}
theorem TxNew.at (h : TxNew base w v t) : TxAt w v t := h w fun _ _ _ => rfl
theorem TxNew.below (h : TxNew base w v t) (hb : Below w.heap.size w w') : TxNew base w' v t := fun w2 h2 => h w2 fun b h3 h4 => (h2 b h3 (Nat.lt_of_lt_of_le h4 hb.size)).trans (hb.block b h4)
theorem TxNew.low {base' : Nat} (h : TxNew base w v t) (hb : base' ≤ base) : TxNew base' w v t := fun w2 h2 => h w2 fun b h3 h4 => h2 b (Nat.le_trans hb h3) h4
theorem TxNew.kept (h : TxNew base w v t) (hk : ∀ b, base ≤ b → w'.heap[b]? = w.heap[b]?) (hs : w'.heap.size = w.heap.size) : TxNew base w' v t := fun w2 h2 => h w2 fun b h3 h4 => (h2 b h3 (hs ▸ h4)).trans (hk b h3)
theorem TxNew.store (h : TxNew base w v t) (p : Addr) (u : Value) (hp : p.block < base) : TxNew base (w.setCell p u) v t :=
  h.kept (fun b hb => Below.heap_setCell _ _ _ _ (by omega)) (by simp)
end
theorem tx_zero (base : Nat) (w : World) : TxNew base w (.agg #[.int .u32 0, .slice none 0 0, .slice none 0 0, .int .u32 0]) noTx := fun w' _ => ⟨_, _, rfl, sl_nil, sl_nil, by show 0 < _; decide, by show 0 < _; decide⟩

/-- The rows of a child lie like this. -/
theorem child_at {w : World} {b1 b2 p1 p2 : Nat} {a : PCl} {cid : ByteArray} {ci tag : Nat} {v : Int} (ho : a.Ok) (hc : cid.size ≤ maxLen) (hci : ci < 4294967296) (hv : -9223372036854775808 ≤ v ∧ v ≤ 9223372036854775807)
    (h1 : w.heap[b1]? = some (.cells #[.string a.id, .int .u32 a.idx, .int .u32 (seqOf a.lock.delay), .slice (some ⟨p1, 0, none⟩) 1 1, .string cid, .int .u32 ci, .int .u32 4294967293, .slice (some ⟨p2, 0, none⟩) 1 1] 76 (0, 0)))
    (h2 : w.heap[b2]? = some (.cells #[.int .i64 v, .string (scrT tag)] 38 (0, 0))) (g1 : w.heap[p1]? = some (.cells #[.string (signW a.br.toNat tag)] 9 (0, 0))) (g2 : w.heap[p2]? = some (.cells #[.string (signW 0 tag)] 9 (0, 0))) :
    TxAt w (.agg #[.int .u32 2, .slice (some ⟨b1, 0, none⟩) 2 2, .slice (some ⟨b2, 0, none⟩) 1 1, .int .u32 0]) (childTx a cid ci tag v) := by
  refine ⟨_, _, rfl, ⟨_, 2, rfl, Nat.le_refl _, by decide, fun i x hi => ?_⟩, ⟨_, 1, rfl, Nat.le_refl _, by decide, fun i x hi => ?_⟩, by show 2 < _; decide, by show 0 < _; decide⟩
  · match i, hi with
    | 0, hi =>
      obtain rfl := Option.some.inj hi
      refine ⟨b1, 0, [.string a.id, .int .u32 a.idx, .int .u32 (seqOf a.lock.delay), .slice (some ⟨p1, 0, none⟩) 1 1], rfl, rfl, fun j u hj => ?_, _, rfl, sl_box g1 (by rw [signW_size]; decide), ho.id, ho.idx, seqOf_lt ho.lock.delay⟩
      rw [cell_at h1]
      match j, hj with
      | 0, hj => exact hj
      | 1, hj => exact hj
      | 2, hj => exact hj
      | 3, hj => exact hj
    | 1, hi =>
      obtain rfl := Option.some.inj hi
      refine ⟨b1, 0, [.string cid, .int .u32 ci, .int .u32 4294967293, .slice (some ⟨p2, 0, none⟩) 1 1], rfl, rfl, fun j u hj => ?_, _, rfl, sl_box g2 (by rw [signW_size]; decide), hc, hci, by show (4294967293 : Nat) < _; omega⟩
      rw [cell_at h1]
      match j, hj with
      | 0, hj => exact hj
      | 1, hj => exact hj
      | 2, hj => exact hj
      | 3, hj => exact hj
    | k + 2, hi => simp [childTx] at hi
  · match i, hi with
    | 0, hi =>
      obtain rfl := Option.some.inj hi
      refine ⟨b2, 0, [.int .i64 v, .string (scrT tag)], rfl, rfl, fun j u hj => ?_, rfl, hv, by dsimp only; rw [scrT_size]; decide⟩
      rw [cell_at h2]
      match j, hj with
      | 0, hj => exact hj
      | 1, hj => exact hj
    | k + 1, hi => simp [childTx] at hi

/-- What is known of each operation's value while the child is put together. -/
def RM (X Y : Nat) (a : PCl) (cid : ByteArray) (ci tag : Nat) (v : Int) (v1 v2 : Value) : Nat → Fact
  | 0 => .val fun _ => .pointer (some ⟨X, 0, none⟩)
  | 1 => .val fun _ => .agg #[.string a.id, .int .u32 a.idx]
  | 2 => .val fun _ => .pointer (some ⟨X, 4, none⟩)
  | 3 => .val fun _ => .agg #[.int .u16 a.lock.tag, .int .u16 a.lock.delay, .int .u32 a.lock.height]
  | 4 => .val fun _ => .int .u32 (seqOf a.lock.delay)
  | 5 => .val fun _ => v1
  | 6 => .val fun _ => .agg #[.string a.id, .int .u32 a.idx, .int .u32 (seqOf a.lock.delay), v1]
  | 7 => .val fun _ => .agg #[.string cid, .int .u32 ci]
  | 8 => .val fun _ => v2
  | 9 => .val fun _ => .agg #[.string cid, .int .u32 ci, .int .u32 4294967293, v2]
  | 10 => .row 2 fun _ => .cells #[.string a.id, .int .u32 a.idx, .int .u32 (seqOf a.lock.delay), v1, .string cid, .int .u32 ci, .int .u32 4294967293, v2] 76 (0, 0)
  | 11 => .val fun _ => .int .u16 tag
  | 12 => .val fun _ => .int .i64 v
  | 13 => .val fun _ => .agg #[.int .i64 v, .string (scrT tag)]
  | 14 => .row 1 fun _ => .cells #[.int .i64 v, .string (scrT tag)] 38 (0, 0)
  | 15 => .val fun d => .agg #[.int .u32 2, d.getD 0 undef, d.getD 1 undef, .int .u32 0]
  | _ => .any
def txV (p q : Nat) : Value := .agg #[.int .u32 2, .slice (some ⟨p, 0, none⟩) 2 2, .slice (some ⟨q, 0, none⟩) 1 1, .int .u32 0]
def MadeIs (t : PTx) (x : POut) (w : World) (e : Ending) (w' : World) : Prop := ∃ p q, e = .returned (txV p q) ∧ w.heap.size ≤ q ∧ w'.heap[q]? = some (.cells #[.int .i64 x.val, .string x.script] 38 (0, 0)) ∧ TxNew w.heap.size w' (txV p q) t ∧ Below w.heap.size w w'
end Go.Proofs.YtmakghcoehkphaaGreat
end

section
/-
  What claims and a coin pay together, both ways: the transaction. Conditions: the claims lie in memory, their branches may be.
-/
namespace Go.Proofs.YtmakghcoehkphaaGreat
open Go.RowKit Go.BigFrame
set_option linter.unusedVariables false
set_option linter.unusedSimpArgs false

set_option maxRecDepth 100000 in
set_option maxHeartbeats 1000000 in
theorem csigned_any (id : ByteArray) (idx seq n tag : Nat) (hn : n < 3) (ht : tag < 65536) (w : World) : Calls Tryz.prog 66 #[.agg #[.string id, .int .u32 idx], .int .u32 seq, .int .i64 n, .int .u16 tag] w fun e w' =>
    ∃ v, e = .returned (.agg #[.string id, .int .u32 idx, .int .u32 seq, v]) ∧ NewStr w (signW n tag) v w' := by
  go_enter Tryz.func66, Tryz.ntmps66
  go_upto_region 1 with fail
  obtain ⟨X, hX⟩ : ∃ q, q = w.heap.size := ⟨_, rfl⟩
  have hnews := new2 w X hX (.cells #[.string id, .int .u32 idx] 25) (.cells #[.string ⟨#[]⟩, .int .u32 0, .int .u32 0, .slice none 0 0] 76)
  rw [← hX]
  generalize ((w.alloc (.cells #[.string id, .int .u32 idx] 25)).alloc (.cells #[.string ⟨#[]⟩, .int .u32 0, .int .u32 0, .slice none 0 0] 76)) = w0 at *
  obtain ⟨hz0, hz1, hal⟩ := hnews
  have hX1 : w.heap.size ≤ X := by omega
  have hl1 := lt_of hz1
  have HB0 := Lib.hid hal
  have HZ0 := Lib.hid hz0
  have HZ1 := Lib.hid hz1
  clear hz0 hz1 hal hX
  go_wp2_with fail
  refine (sign_new n tag hn ht w0).mono ?_
  rintro e w1 ⟨v1, rfl, p1, rfl, hp1, g1, hb⟩
  have z0 : w1.cell? ⟨X, 0, none⟩ = some (.string id) := cell_at ((hb.block X (by omega)).trans HZ0.out)
  have z1 : w1.cell? ⟨X, 1, none⟩ = some (.int .u32 idx) := cell_at ((hb.block X (by omega)).trans HZ0.out)
  have hr := (hb.block (X + 1) hl1).trans HZ1.out
  have r0 : w1.cell? ⟨X + 1, 0, none⟩ = some (.string ⟨#[]⟩) := cell_at hr
  have r1 : w1.cell? ⟨X + 1, 1, none⟩ = some (.int .u32 0) := cell_at hr
  have r2 : w1.cell? ⟨X + 1, 2, none⟩ = some (.int .u32 0) := cell_at hr
  have r3 : w1.cell? ⟨X + 1, 3, none⟩ = some (.slice none 0 0) := cell_at hr
  have f0 : w1.frozen? ⟨X + 1, 0, none⟩ = false := free_at hr
  have f1 : w1.frozen? ⟨X + 1, 1, none⟩ = false := free_at hr
  have f2 : w1.frozen? ⟨X + 1, 2, none⟩ = false := free_at hr
  have f3 : w1.frozen? ⟨X + 1, 3, none⟩ = false := free_at hr
  have HB1 := Lib.hid (HB0.out.trans (hb.mono HB0.out.size))
  have hsz := HB0.out.size
  have hp1X : p1 ≠ X + 1 := by omega
  have HF := Lib.hid (show NewStr w (signW n tag) (.slice (some ⟨p1, 0, none⟩) 1 1) ((((w1.setCell ⟨X + 1, 0, none⟩ (.string id)).setCell ⟨X + 1, 1, none⟩ (.int .u32 idx)).setCell ⟨X + 1, 2, none⟩ (.int .u32 seq)).setCell ⟨X + 1, 3, none⟩ (.slice (some ⟨p1, 0, none⟩) 1 1)) from
    ⟨p1, rfl, by omega, by rw [Below.heap_setCell _ _ _ _ hp1X, Below.heap_setCell _ _ _ _ hp1X, Below.heap_setCell _ _ _ _ hp1X, Below.heap_setCell _ _ _ _ hp1X]; exact g1,
      (((HB1.out.setCell (p := ⟨X + 1, 0, none⟩) (by show w.heap.size ≤ X + 1; omega) _).setCell (p := ⟨X + 1, 1, none⟩) (by show w.heap.size ≤ X + 1; omega) _).setCell (p := ⟨X + 1, 2, none⟩) (by show w.heap.size ≤ X + 1; omega) _).setCell (p := ⟨X + 1, 3, none⟩) (by show w.heap.size ≤ X + 1; omega) _⟩)
  clear g1 hb hr HB0 HZ0 HZ1 HB1 hp1 hsz hp1X
  go_wp2_with fail
  exact bodyPost_ret (v := .agg #[.string id, .int .u32 idx, .int .u32 seq, .slice (some ⟨p1, 0, none⟩) 1 1]) (by simp [results, Tryz.results66, go_sem, r0, r1, r2, r3]) rfl ⟨_, rfl, HF.out⟩

/-! ### what is being put together -/
theorem step_callK {P : Program} {ops : Array Oper} {o : Oper} {a : Act} {w : World} {K : Act → World → Prop} {Q : Exit → Act → World → Prop} {E : Prop} {f : FuncId} {args : Array Value} {R : Ending → World → Prop} (hg : o.guard = none)
    (hrun : (execOp a.eval o).run P w = .ok (.enter f args) w) (hc : Calls P f args w R) (hR : ∀ e w', R e w' → ∃ v, e = .returned v ∧ K (a.put o.dst v) w') :
    if Region.wanted o (yielded ops a.tmps) = true then Oper.wp P o a w K Q else E := by
  have hw : Region.wanted o (yielded ops a.tmps) = true := by simp [Region.wanted, hg]
  rw [if_pos hw]
  unfold Oper.wp
  rw [hrun]
  refine hc.mono ?_
  intro e w' h
  obtain ⟨v, rfl, hk⟩ := hR e w' h
  exact hk
section
variable {P : Program} {ops : Array Oper} {o : Oper} {a : Act} {w w' : World} {v : Value} {K : Act → World → Prop} {Q : Exit → Act → World → Prop} {E : Prop}
theorem step_runK (hg : o.guard = none) (hw : Region.wanted o (yielded ops a.tmps) = true) (hrun : (execOp a.eval o).run P w = .ok (.value v) w') (hK : K (a.put o.dst v) w') : if Region.wanted o (yielded ops a.tmps) = true then Oper.wp P o a w K Q else E := by
  rw [if_pos hw]
  exact opv_run hrun hK
theorem step_skipK (hg : o.guard = none) (hw : Region.wanted o (yielded ops a.tmps) = true) (hrun : (execOp a.eval o).run P w = .ok .skip w') (hK : K (a.put o.dst undef) w') : if Region.wanted o (yielded ops a.tmps) = true then Oper.wp P o a w K Q else E := by
  rw [if_pos hw]
  exact op_skip hrun hK
end
/-- A row of one text of one's own. -/
theorem own_str {w : World} {base p : Nat} {s : ByteArray} (hp : base ≤ p) (h : w.heap[p]? = some (.cells #[.string s] 9 (0, 0))) : w.ownsRow base 9 1 (.slice (some ⟨p, 0, none⟩) 1 1) 1 (strCells [s]) :=
  ⟨rfl, .inr ⟨p, 1, _, rfl, hp, h, Nat.le_refl _, by decide, rfl, rfl⟩⟩
/-- The transaction's box T, and Ins of the call's own in blocks behind it. -/
structure MI (w : World) (T : Nat) (hi : Nat) (vi vo : Value) (ps : List (PIn × Value)) (wr : World) : Prop where
  bel : Below w.heap.size w wr
  low : w.heap.size ≤ T
  box : wr.heap[T]? = some (.cells #[.int .u32 2, vi, vo, .int .u32 hi] 44 (0, 0))
  ins : InsOwn (T + 1) wr vi ps
section
variable {w wr w' : World} {T hi : Nat} {vi vo : Value} {ps : List (PIn × Value)}
theorem MI.lt (h : MI w T hi vi vo ps wr) : T < wr.heap.size := lt_of h.box
theorem MI.below (h : MI w T hi vi vo ps wr) (hb : Below wr.heap.size wr w') : MI w T hi vi vo ps w' := ⟨h.bel.trans (hb.mono h.bel.size), h.low, stay h.box hb, h.ins.below hb⟩
theorem MI.set (h : MI w T hi vi vo ps wr) {j : Nat} {u : Value} {hi' : Nat} {vo' : Value} (hc : (#[.int .u32 2, vi, vo, .int .u32 hi] : Array Value).setIfInBounds j u = #[.int .u32 2, vi, vo', .int .u32 hi']) : MI w T hi' vi vo' ps (wr.setCell ⟨T, j, none⟩ u) := by
  refine ⟨h.bel.setCell (p := ⟨T, j, none⟩) h.low _, h.low, ?_, h.ins.store ⟨T, j, none⟩ u fun e => by have := (h.ins.lt e).1; dsimp only at this; omega⟩
  rw [heap_setCell_at h.box, hc]
/-- One In more, out of a row at q, its witness at p. -/
theorem MI.app {a : Option Addr} {n c N q p : Nat} (h : MI w T hi (.slice a n c) vo ps wr) (hl : ps.length = n) (hn : n ≤ 1000) (id : ByteArray) (idx seq : Nat) (s : ByteArray) (hN : ∀ b, InsHas (.slice a n c) ps b → b < N) (hTN : T < N) (hp : N ≤ p)
    (hq : wr.heap[q]? = some (.cells #[.string id, .int .u32 idx, .int .u32 seq, .slice (some ⟨p, 0, none⟩) 1 1] 76 (0, 0))) (hg : wr.heap[p]? = some (.cells #[.string s] 9 (0, 0))) (hok : OkIn ⟨id, idx, seq, [s]⟩) :
    ∃ a' c' wd, (Builtin.append_ #[41, 41] 41 #[.slice a n c, .slice (some ⟨q, 0, none⟩) 1 1]).run Tryz.prog wr = .ok (.slice a' (n + 1) c') wd ∧
      wd.heap[T]? = some (.cells #[.int .u32 2, .slice a n c, vo, .int .u32 hi] 44 (0, 0)) ∧ (∀ k, k < wr.heap.size → (Value.slice a n c).ownBlock ≠ some k → wd.heap[k]? = wr.heap[k]?) ∧
      MI w T hi (.slice a' (n + 1) c') vo (ps ++ [(⟨id, idx, seq, [s]⟩, .slice (some ⟨p, 0, none⟩) 1 1)]) (wd.setCell ⟨T, 1, none⟩ (.slice a' (n + 1) c')) := by
  subst hl
  have hT := h.lt
  obtain ⟨i0, hi0, hz0, hz1, hz2⟩ := info_parts info_in
  obtain ⟨v3, w3, hrun, hown3, hg3, hv3⟩ := append_own_src (P := Tryz.prog) wr (T + 1) 41 41 41 76 i0 _ 4 56 Tryz.underlying41 hi0 hz0 hz1 hz2 rfl _ ps.length _ h.ins.row (.slice (some ⟨q, 0, none⟩) 1 1) 1 [.string id, .int .u32 idx, .int .u32 seq, .slice (some ⟨p, 0, none⟩) 1 1]
    (Src.ofSlice _ Tryz.underlying41 ⟨q, 0, none⟩ 1 1 _ rfl (fun j u hj => by
      rw [Addr.add_lit, Nat.zero_add, cell_at hq]
      simpa using hj) (by simp [Value.oneCell'])) (by rw [maxLen_eq]; omega) (by omega) (by omega)
  obtain ⟨a3, c3, rfl, -, -⟩ := ownsRow_shape hown3
  have hkeep : ∀ k, k < wr.heap.size → (Value.slice a ps.length c).ownBlock ≠ some k → w3.heap[k]? = wr.heap[k]? := fun k hk hne => hg3.block k hk (fun e => hne e.symm)
  have hpl := lt_of hg
  have hnp : ∀ b, (Value.slice (some ⟨p, 0, none⟩) 1 1).ownBlock = some b → ¬ InsHas (.slice a ps.length c) ps b := fun b e hh => by
    have e' : p = b := by simpa [Value.ownBlock] using e
    have := hN b hh
    omega
  have hins := h.ins.snoc hown3 (x := ⟨id, idx, seq, [s]⟩) (wv := .slice (some ⟨p, 0, none⟩) 1 1) (by
    rcases hv3 with e | e
    · exact .inl e
    · refine .inr ⟨_, e, Nat.le_refl _, fun e' => ?_⟩
      have e2 : p = wr.heap.size := by simpa [Value.ownBlock] using e'
      omega) hkeep
    (own_str (by omega) ((hkeep p hpl (fun e => hnp p rfl (.inl e))).trans hg)) hok hnp
  have hbox : w3.heap[T]? = some (.cells #[.int .u32 2, .slice a ps.length c, vo, .int .u32 hi] 44 (0, 0)) := (hkeep T hT (fun e => by have := (h.ins.row.lt T e).1; omega)).trans h.box
  have hb3 : Below w.heap.size w w3 := h.bel.grown hg3 h.bel.size (fun k hk => by have := (h.ins.row.lt k hk).1; have := h.low; omega)
  refine ⟨a3, c3, w3, hrun, hbox, hkeep, hb3.setCell (p := ⟨T, 1, none⟩) h.low _, h.low, ?_, hins.store ⟨T, 1, none⟩ _ fun e => by have := (hins.lt e).1; dsimp only at this; omega⟩
  rw [heap_setCell_at hbox]
  rfl
/-- An In with a new witness. -/
def Fact.inV (id : ByteArray) (idx seq : Nat) (s : ByteArray) : Fact := ⟨fun v _ lo hi w => ∃ p, lo ≤ p ∧ p < hi ∧ v = .agg #[.string id, .int .u32 idx, .int .u32 seq, .slice (some ⟨p, 0, none⟩) 1 1] ∧ w.heap[p]? = some (.cells #[.string s] 9 (0, 0)),
  fun hk ⟨p, h1, h2, h3, h4⟩ => ⟨p, h1, h2, h3, (hk p h2).trans h4⟩⟩
/-- A row of one such. -/
def Fact.inR (N : Nat) (id : ByteArray) (idx seq : Nat) (s : ByteArray) : Fact := ⟨fun v _ lo hi w => ∃ q p, lo ≤ q ∧ q < hi ∧ N ≤ p ∧ p < hi ∧ v = .slice (some ⟨q, 0, none⟩) 1 1 ∧ w.heap[q]? = some (.cells #[.string id, .int .u32 idx, .int .u32 seq, .slice (some ⟨p, 0, none⟩) 1 1] 76 (0, 0)) ∧ w.heap[p]? = some (.cells #[.string s] 9 (0, 0)),
  fun hk ⟨q, p, h1, h2, h3, h4, h5, h6, h7⟩ => ⟨q, p, h1, h2, h3, h4, h5, (hk q h2).trans h6, (hk p h4).trans h7⟩⟩
end
end Go.Proofs.YtmakghcoehkphaaGreat
end
