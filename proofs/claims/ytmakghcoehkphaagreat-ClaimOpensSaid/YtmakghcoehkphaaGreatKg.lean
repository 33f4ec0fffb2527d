/-
  Claims: their buckets, whether one may be, the sum of their values. Conditions: the claims lie in memory.
-/
import Derived.Test.YtmakghcoehkphaaGreatQ8ClaimBuilds
import Derived.Test.YtmakghcoehkphaaGreatQ2ClaimBuilds
namespace Go.Proofs.YtmakghcoehkphaaGreat
open Go.RowKit Go.BigFrame
set_option linter.unusedVariables false
set_option linter.unusedSimpArgs false

/-! ### buckets -/
def bktOf (d : Int) : Int := if d < 0 ∨ 1000000 < d then -1 else d / 6
theorem bkt_lo (d : Int) : -1 ≤ bktOf d := by unfold bktOf; split <;> omega
theorem bkt_hi (d : Int) : bktOf d ≤ 1000000 := by unfold bktOf; split <;> omega
def bkC (a : PCl) : Int := bktOf a.dead
theorem rbucket_any (d : Int) (w : World) : Calls Tryz.prog 23 #[.int .i64 d] w fun e w' => e = .returned (.int .i64 (bktOf d)) ∧ w = w' := by
  obtain ⟨r, hr⟩ : ∃ r, r = bktOf d := ⟨_, rfl⟩
  rw [← hr]
  unfold bktOf at hr
  by_cases h : d < 0 ∨ 1000000 < d
  · rw [if_pos h] at hr
    subst hr
    by_cases h1 : d < 0
    · go_enter Tryz.func23, Tryz.ntmps23
      go_wp2_with fail
      go_ret
      exact ⟨rfl, rfl⟩
    · have h2 : 1000000 < d := by omega
      go_enter Tryz.func23, Tryz.ntmps23
      go_wp2_with fail
      go_ret
      exact ⟨rfl, rfl⟩
  · rw [if_neg h] at hr
    have h1 : ¬ d < 0 := by omega
    have h2 : ¬ 1000000 < d := by omega
    have h3 : IntKind.i64.wrap (d.tdiv 6) = d / 6 := by rw [IntKind.wrap_i64, Int.tdiv_eq_ediv_of_nonneg (by omega)]; omega
    have h4 : d.tdiv 6 = d / 6 := Int.tdiv_eq_ediv_of_nonneg (by omega)
    have HR := Lib.hid hr
    clear hr h
    go_enter Tryz.func23, Tryz.ntmps23
    go_wp2_with fail
    go_ret
    exact ⟨by rw [HR.out]; first | rfl | simp [h3, h4], rfl⟩
def bktE (d : Int) : Int × Int := if d < 0 ∨ 1000000 < d then (0, 3) else (d / 6, 0)
theorem bktE_ok {d : Int} (h : (bktE d).2 = 0) : (bktE d).1 = bktOf d ∧ 0 ≤ bktOf d := by
  unfold bktE bktOf at *
  split at h
  · cases h
  · rename_i h1
    rw [if_neg h1, if_neg h1]
    exact ⟨rfl, by omega⟩
theorem bktE_no {d : Int} (h : (bktE d).2 ≠ 0) : bktE d = (0, 3) ∧ bktOf d = -1 := by
  unfold bktE bktOf at *
  split at h
  · rename_i h1
    rw [if_pos h1, if_pos h1]
    exact ⟨rfl, rfl⟩
  · exact absurd rfl h
theorem bucket_any (d : Int) (w : World) : Calls Tryz.prog 20 #[.int .i64 d] w fun e w' => e = .returned (.tuple #[.int .i64 (bktE d).1, .int .i64 (bktE d).2]) ∧ w = w' := by
  obtain ⟨r, hr⟩ : ∃ r, r = bktE d := ⟨_, rfl⟩
  rw [← hr]
  unfold bktE at hr
  by_cases h : d < 0 ∨ 1000000 < d
  · rw [if_pos h] at hr
    subst hr
    by_cases h1 : d < 0
    · go_enter Tryz.func20, Tryz.ntmps20
      go_wp2_with fail
      go_ret2
      exact ⟨rfl, rfl⟩
    · have h2 : 1000000 < d := by omega
      go_enter Tryz.func20, Tryz.ntmps20
      go_wp2_with fail
      go_ret2
      exact ⟨rfl, rfl⟩
  · rw [if_neg h] at hr
    have h1 : ¬ d < 0 := by omega
    have h2 : ¬ 1000000 < d := by omega
    have h3 : IntKind.i64.wrap (d.tdiv 6) = d / 6 := by rw [IntKind.wrap_i64, Int.tdiv_eq_ediv_of_nonneg (by omega)]; omega
    have h4 : d.tdiv 6 = d / 6 := Int.tdiv_eq_ediv_of_nonneg (by omega)
    have HR := Lib.hid hr
    clear hr h
    go_enter Tryz.func20, Tryz.ntmps20
    go_wp2_with fail
    go_ret2
    exact ⟨by rw [HR.out]; first | rfl | simp [h3, h4], rfl⟩

/-! ### may one be -/
theorem countedC_any (n : Int) (w : World) : Calls Tryz.prog 31 #[.int .i64 n] w fun e w' => e = .returned (.bool (decide (1 ≤ n) && decide (n ≤ 32))) ∧ w = w' := by
  by_cases h1 : 1 ≤ n
  · have e1 := decide_eq_true h1
    rw [e1]
    go_enter Tryz.func31, Tryz.ntmps31
    go_wp2_with fail
    go_ret
    exact ⟨rfl, rfl⟩
  · have e1 := decide_eq_false h1
    rw [e1]
    go_enter Tryz.func31, Tryz.ntmps31
    go_wp2_with fail
    go_ret
    exact ⟨rfl, rfl⟩
theorem named_any (a : PCl) (w : World) : Calls Tryz.prog 34 #[clV a] w fun e w' => e = .returned (.bool (namedC a)) ∧ Below w.heap.size w w' := by
  obtain ⟨r, hr⟩ : ∃ r, r = namedC a := ⟨_, rfl⟩
  rw [← hr]
  have hhg : decide ((a.lock.height : Int) ≤ 1000000) = decide (a.lock.height ≤ 1000000) := decide_eq_decide.2 (by omega)
  unfold namedC at hr
  rw [← hhg] at hr
  have HR := Lib.hid hr
  clear hr hhg
  unfold clV
  go_enter Tryz.func34, Tryz.ntmps34
  go_upto_region 1 with fail
  have hz := heap_alloc_new w (.cells #[.string a.id, .int .u32 a.idx, .int .i64 a.val, .int .i64 a.br, .int .u16 a.lock.tag, .int .u16 a.lock.delay, .int .u32 a.lock.height, .int .i64 a.dead] 34)
  have hal : Below w.heap.size w (w.alloc (.cells #[.string a.id, .int .u32 a.idx, .int .i64 a.val, .int .i64 a.br, .int .u16 a.lock.tag, .int .u16 a.lock.delay, .int .u32 a.lock.height, .int .i64 a.dead] 34)) := (Below.refl _ _).alloc (Nat.le_refl _) _
  obtain ⟨X, hX⟩ : ∃ q, q = w.heap.size := ⟨_, rfl⟩
  rw [← hX] at hz ⊢
  generalize w.alloc (.cells #[.string a.id, .int .u32 a.idx, .int .i64 a.val, .int .i64 a.br, .int .u16 a.lock.tag, .int .u16 a.lock.delay, .int .u32 a.lock.height, .int .i64 a.dead] 34) = w0 at *
  have c3 : w0.cell? ⟨X, 3, none⟩ = some (.int .i64 a.br) := cell_at hz
  have c6 : w0.cell? ⟨X, 6, none⟩ = some (.int .u32 a.lock.height) := cell_at hz
  have HB := Lib.hid hal
  clear hz hal hX
  by_cases h1 : 0 ≤ a.br
  · have e1 := decide_eq_true h1
    rw [e1] at HR
    by_cases h2 : a.br ≤ 2
    · have e2 := decide_eq_true h2
      rw [e2] at HR
      clear e1 e2
      go_wp2_with fail
      go_ret
      exact ⟨by rw [HR.out]; rfl, HB.out⟩
    · have e2 := decide_eq_false h2
      rw [e2] at HR
      clear e1 e2
      go_wp2_with fail
      go_ret
      exact ⟨by rw [HR.out]; rfl, HB.out⟩
  · have e1 := decide_eq_false h1
    rw [e1] at HR
    clear e1
    go_wp2_with fail
    go_ret
    exact ⟨by rw [HR.out]; rfl, HB.out⟩
theorem build1_any (a : PCl) (w : World) : Calls Tryz.prog 33 #[clV a] w fun e w' => e = .returned (.bool (!namedC a)) ∧ Below w.heap.size w w' := by
  have HQ := Lib.hid (fun y => named_any a y)
  generalize namedC a = q at *
  unfold clV at *
  go_enter Tryz.func33, Tryz.ntmps33
  go_upto_region 1 with fail
  have hz := heap_alloc_new w (.cells #[.string a.id, .int .u32 a.idx, .int .i64 a.val, .int .i64 a.br, .int .u16 a.lock.tag, .int .u16 a.lock.delay, .int .u32 a.lock.height, .int .i64 a.dead] 34)
  have hal : Below w.heap.size w (w.alloc (.cells #[.string a.id, .int .u32 a.idx, .int .i64 a.val, .int .i64 a.br, .int .u16 a.lock.tag, .int .u16 a.lock.delay, .int .u32 a.lock.height, .int .i64 a.dead] 34)) := (Below.refl _ _).alloc (Nat.le_refl _) _
  obtain ⟨X, hX⟩ : ∃ q, q = w.heap.size := ⟨_, rfl⟩
  rw [← hX] at hz ⊢
  generalize w.alloc (.cells #[.string a.id, .int .u32 a.idx, .int .i64 a.val, .int .i64 a.br, .int .u16 a.lock.tag, .int .u16 a.lock.delay, .int .u32 a.lock.height, .int .i64 a.dead] 34) = w0 at *
  have c0 : w0.cell? ⟨X, 0, none⟩ = some (.string a.id) := cell_at hz
  have c1 : w0.cell? ⟨X, 1, none⟩ = some (.int .u32 a.idx) := cell_at hz
  have c2 : w0.cell? ⟨X, 2, none⟩ = some (.int .i64 a.val) := cell_at hz
  have c3 : w0.cell? ⟨X, 3, none⟩ = some (.int .i64 a.br) := cell_at hz
  have c4 : w0.cell? ⟨X, 4, none⟩ = some (.int .u16 a.lock.tag) := cell_at hz
  have c5 : w0.cell? ⟨X, 5, none⟩ = some (.int .u16 a.lock.delay) := cell_at hz
  have c6 : w0.cell? ⟨X, 6, none⟩ = some (.int .u32 a.lock.height) := cell_at hz
  have c7 : w0.cell? ⟨X, 7, none⟩ = some (.int .i64 a.dead) := cell_at hz
  have HB := Lib.hid hal
  clear hz hal hX
  go_wp2_with fail
  refine (HQ.out w0).mono ?_
  rintro e w1 ⟨rfl, hb⟩
  have HB1 := Lib.hid (HB.out.trans (hb.mono HB.out.size))
  clear hb HB
  go_wp2_with fail
  go_ret
  exact ⟨rfl, HB1.out⟩
def ClIs (w : World) (v : Value) (x : PCl) : Prop := v = clV x ∧ x.Ok

/-- The predicate's contract, wherever the call stands. -/
def PredCl (w : World) (p : PCl → Bool) : Prop :=
  ∀ (w' : World) (v : Value) (x : PCl), Below w.heap.size w w' → ClIs w' v x → Calls Tryz.prog 33 #[v] w' fun e w'' => e = .returned (.bool (p x)) ∧ Below w'.heap.size w' w''
set_option maxRecDepth 100000 in
set_option maxHeartbeats 2000000 in
theorem idxCl (v : Value) (xs : List PCl) (p : PCl → Bool) (w : World) (hv : SlAt rpCl w v xs) (hp : PredCl w p) :
    Calls Tryz.prog 64 #[v, .func (.func 33) #[] #[]] w fun e w' => (∃ n : Int, e = .returned (.int .i64 n) ∧ IdxIs p xs n) ∧ Below w.heap.size w w' := by
  obtain ⟨a, c, rfl, hl1, hl2⟩ := hv.shape
  rw [maxLen_eq] at hl2
  obtain ⟨n, hn⟩ : ∃ n, n = xs.length := ⟨_, rfl⟩
  rw [← hn] at hv hl1 ⊢
  have HN := Lib.hid hn
  have HP := Lib.hid hp
  clear hn hp
  go_enter Tryz.func64, Tryz.ntmps64
  go_wp2_with fail
  go_loopw [5, 8] (fun _ i wr => ∃ k : Nat, k ≤ n ∧ i = .int .i64 k ∧ Below w.heap.size w wr ∧ ∀ (j : Nat) (y : PCl), j < k → xs[j]? = some y → p y = false) (fun _ i _ => n - (intOf i).toNat)
  case atStart => exact ⟨0, Nat.zero_le _, rfl, Below.refl _ _, fun j x hj => absurd hj (Nat.not_lt_zero _)⟩
  case round =>
    rename World => wo
    obtain ⟨k, hk, rfl, hbw, hsame⟩ := hrel
    have HS := Lib.hid hsame
    have HW := Lib.hid hbw
    by_cases hlt : k < n
    · obtain ⟨b, o, x, rfl, hx, hok, hcl⟩ := (hv.mono (below_cells hbw)).cl hlt
      obtain ⟨d0, d1, d2, d3, d4, d5, d6, d7⟩ := hcl
      have hc := HP.out wo (clV x) x hbw ⟨rfl, hok⟩
      have HX := Lib.hid hx
      unfold clV at hc
      clear hx hok hbw hsame hv
      cases hpx : p x
      · rw [hpx] at hc
        have HC := Lib.hid hc
        have HNX := Lib.hid (before_step HS.out HX.out hpx)
        clear hc hpx
        go_wp2_with fail
        refine HC.out.mono ?_
        rintro e w1 ⟨rfl, hb1⟩
        have HB1 := Lib.hid (HW.out.trans (hb1.mono HW.out.size))
        clear hb1
        go_wp2
        go_roundw
        case rel => exact ⟨k + 1, by omega, by go_num, HB1.out, HNX.out⟩
        case measure => simp [intOf]; omega
      · rw [hpx] at hc
        have HC := Lib.hid hc
        have HFN := Lib.hid (show IdxIs p xs (k : Int) from .inr ⟨k, x, rfl, HX.out, hpx, HS.out⟩)
        clear hc hpx
        go_wp2_with fail
        refine HC.out.mono ?_
        rintro e w1 ⟨rfl, hb1⟩
        have HB1 := Lib.hid (HW.out.trans (hb1.mono HW.out.size))
        clear hb1
        go_wp2
        go_ret
        exact ⟨⟨_, rfl, HFN.out⟩, HB1.out⟩
    · obtain rfl : k = n := by omega
      have HF := Lib.hid (any_no HN.out hsame)
      clear hsame hbw hv
      go_wp2
      go_ret
      exact ⟨⟨_, rfl, .inl ⟨rfl, HF.out⟩⟩, HW.out⟩
set_option maxHeartbeats 2000000 in
theorem conCl (v : Value) (xs : List PCl) (p : PCl → Bool) (w : World) (hv : SlAt rpCl w v xs) (hp : PredCl w p) :
    Calls Tryz.prog 32 #[v, .func (.func 33) #[] #[]] w fun e w' => e = .returned (.bool (xs.any p)) ∧ Below w.heap.size w w' := by
  have HI := Lib.hid (idxCl v xs p w hv hp)
  obtain ⟨a, c, rfl, hl1, hl2⟩ := hv.shape
  clear hv hl1 hl2 hp
  generalize xs.length = n at *
  go_enter Tryz.func32, Tryz.ntmps32
  go_wp2_with fail
  refine HI.out.mono ?_
  rintro e w1 ⟨⟨m, rfl, hm⟩, hb1⟩
  have HM := Lib.hid hm.any
  clear hm
  go_wp2
  go_ret
  exact ⟨ret_bool HM.out, hb1⟩
theorem badC_any (v : Value) (xs : List PCl) (w : World) (hv : SlAt rpCl w v xs) : Calls Tryz.prog 32 #[v, .func (.func 33) #[] #[]] w fun e w' => e = .returned (.bool (xs.any fun a => !namedC a)) ∧ Below w.heap.size w w' :=
  conCl v xs (fun a => !namedC a) w hv fun w' v x hb ⟨h1, h2⟩ => by rw [h1]; exact build1_any x w'

/-! ### the sum -/
def valsOf (cv : Int) (l : List PCl) : List Int := cv :: l.map (·.val)
theorem valsOf_snoc (cv : Int) (l : List PCl) (a : PCl) : valsOf cv (l ++ [a]) = valsOf cv l ++ [a.val] := by simp [valsOf]
theorem valsOf_len (cv : Int) (l : List PCl) : (valsOf cv l).length = l.length + 1 := by simp [valsOf]
def CSumIs (cv : Int) (l : List PCl) (w : World) (e : Ending) (w' : World) : Prop := e = .returned (.tuple #[.int .i64 (sumA 0 (valsOf cv l)).1, .int .i64 (sumA 0 (valsOf cv l)).2]) ∧ Below w.heap.size w w'
set_option maxRecDepth 100000 in
set_option maxHeartbeats 2000000 in
theorem csum_any (v : Value) (l : List PCl) (cid : ByteArray) (ci : Nat) (cv : Int) (cs : ByteArray) (ch : Int) (hcv : (Lit.int .i64 cv).wf = true) (w : World) (hv : SlAt rpCl w v l) (hlen : l.length ≤ 1000) :
    Calls Tryz.prog 30 #[v, .agg #[.string cid, .int .u32 ci, .int .i64 cv, .string cs, .int .i64 ch]] w (CSumIs cv l w) := by
  have HSL := Lib.hid hv
  obtain ⟨a, c, rfl, hl1, hl2⟩ := hv.shape
  rw [maxLen_eq] at hl2
  obtain ⟨n, hn⟩ : ∃ n, n = l.length := ⟨_, rfl⟩
  rw [← hn] at hl1 HSL hlen ⊢
  have HN := Lib.hid hn
  have HCV := Lib.hid hcv
  clear hn hv hcv
  go_enter Tryz.func30, Tryz.ntmps30
  go_upto_region 1 with fail
  have hz := heap_alloc_new w (.cells #[.string cid, .int .u32 ci, .int .i64 cv, .string cs, .int .i64 ch] 49)
  have hal : Below w.heap.size w (w.alloc (.cells #[.string cid, .int .u32 ci, .int .i64 cv, .string cs, .int .i64 ch] 49)) := (Below.refl _ _).alloc (Nat.le_refl _) _
  obtain ⟨X, hX⟩ : ∃ q, q = w.heap.size := ⟨_, rfl⟩
  rw [← hX] at hz ⊢
  generalize w.alloc (.cells #[.string cid, .int .u32 ci, .int .i64 cv, .string cs, .int .i64 ch] 49) = w0 at *
  have c2 : w0.cell? ⟨X, 2, none⟩ = some (.int .i64 cv) := cell_at hz
  have HB0 := Lib.hid hal
  clear hz hal hX
  go_upto_region 2 with fail
  have hrow := World.ownsRow_lit (base := w.heap.size) (e := 3) (size := 1) w0 #[.int .i64 cv] 1 HB0.out.size (by decide) rfl
  have hal : Below w0.heap.size w0 (w0.alloc (.cells #[.int .i64 cv] 3)) := (Below.refl _ _).alloc (Nat.le_refl _) _
  have HROW := Lib.hid hrow
  have HB1 := Lib.hid (HB0.out.trans (hal.mono HB0.out.size))
  generalize w0.alloc (.cells #[.int .i64 cv] 3) = w1 at *
  generalize w0.heap.size = Y at *
  clear hrow hal HB0
  go_wp2_with fail
  go_loopg [6, 16] n (fun g r i wr => ∃ (k : Nat) (r0 : Value), r = r0 ∧ g = n - k ∧ k ≤ n ∧ i = .int .i64 k ∧ Below w.heap.size w wr ∧ wr.ownsRow w.heap.size 3 1 r0 (k + 1) (intCells (valsOf cv (l.take k))))
  case atStart => exact ⟨0, _, rfl, rfl, by omega, rfl, HB1.out, HROW.out⟩
  case round =>
    clear HB1 HROW c2
    rename World => wo
    obtain ⟨k, r0, hr0, hgk, hk, rfl, hb, hown⟩ := hrel
    obtain rfl := hr0.symm
    have HGK := Lib.hid hgk
    have HB := Lib.hid hb
    have HOWN := Lib.hid hown
    clear hgk hb hown
    by_cases hlt : k < n
    · obtain ⟨b, o, x, rfl, hx, hok, hcl⟩ := (HSL.out.below HB.out).cl hlt
      obtain ⟨d0, d1, d2, d3, d4, d5, d6, d7⟩ := hcl
      have HNX := Lib.hid (show valsOf cv (l.take (k + 1)) = valsOf cv (l.take k) ++ [x.val] by rw [← valsOf_snoc, List.take_add_one, hx]; rfl)
      clear hx hok
      go_upto_region 5 with fail
      have hz := heap_alloc_new wo (.cells #[.string x.id, .int .u32 x.idx, .int .i64 x.val, .int .i64 x.br, .int .u16 x.lock.tag, .int .u16 x.lock.delay, .int .u32 x.lock.height, .int .i64 x.dead] 34)
      have hal : Below wo.heap.size wo (wo.alloc (.cells #[.string x.id, .int .u32 x.idx, .int .i64 x.val, .int .i64 x.br, .int .u16 x.lock.tag, .int .u16 x.lock.delay, .int .u32 x.lock.height, .int .i64 x.dead] 34)) := (Below.refl _ _).alloc (Nat.le_refl _) _
      obtain ⟨Q, hQ⟩ : ∃ q, q = wo.heap.size := ⟨_, rfl⟩
      rw [← hQ] at hz ⊢
      generalize wo.alloc (.cells #[.string x.id, .int .u32 x.idx, .int .i64 x.val, .int .i64 x.br, .int .u16 x.lock.tag, .int .u16 x.lock.delay, .int .u32 x.lock.height, .int .i64 x.dead] 34) = wx at *
      have e2 : wx.cell? ⟨Q, 2, none⟩ = some (.int .i64 x.val) := cell_at hz
      have HBX := Lib.hid (HB.out.trans (hal.mono HB.out.size))
      obtain ⟨a6, c6, rfl, -, -⟩ := ownsRow_shape HOWN.out
      obtain ⟨i0, hi, hz0, hz1, hz2⟩ := info_parts info_int
      obtain ⟨a3, c3, w3, hrun, hown3, hb3, -⟩ := append_el (P := Tryz.prog) Tryz.underlying36 hi hz0 hz1 hz2 rfl (ownsRow_below HOWN.out hal) #[.int .i64 x.val] rfl (by simp [Value.oneCell']) (by rw [maxLen_eq]; omega) (by have := HN.out; omega) (by have := HBX.out.size; omega) (ty := 36)
      have HR := Lib.hid hrun
      have HO3 := Lib.hid hown3
      have HB3 := Lib.hid (HBX.out.trans hb3)
      clear hi hz0 hz1 hz2 i0 hrun hown3 hb3 hz hal hQ d0 d1 d2 d3 d4 d5 d6 d7
      go_wp2_with (at_builtin; refine wpList_append_run rfl (.tmp 20) (.tmp 23) 36 36 rfl rfl rfl HR.out ?_)
      go_roundg (n - (k + 1))
      case measure => have := HGK.out; omega
      case rel =>
        refine ⟨k + 1, _, rfl, rfl, by omega, by go_num, HB3.out, ?_⟩
        rw [HNX.out]
        have := HO3.out
        simpa [intCells] using this
    · obtain rfl : k = n := by omega
      have htk : (l.take k) = l := List.take_of_length_le (by rw [HN.out]; exact Nat.le_refl _)
      have hsl : SlAt (rpInt .i64) wo r0 (valsOf cv l) := SlAt.of_ints (by have := HOWN.out; rw [htk] at this; exact this) (by rw [valsOf_len, HN.out]) (fun x hx => by
        rcases List.mem_cons.1 hx with rfl | hx
        · exact HCV.out
        · obtain ⟨y, hy, rfl⟩ := List.mem_map.1 hx
          obtain ⟨i, hi⟩ := List.mem_iff_getElem?.1 hy
          obtain ⟨_, _, y', _, hy', hok, _⟩ := HSL.out.cl (by rw [HN.out]; exact (List.getElem?_eq_some_iff.1 hi).1)
          rw [hi] at hy'
          obtain rfl := Option.some.inj hy'
          exact wf_of hok.val)
      have HS := Lib.hid hsl
      clear hsl htk
      obtain ⟨a6, c6, rfl, -, -⟩ := ownsRow_shape HOWN.out
      go_wp2_with fail
      refine (asum_any _ _ wo HS.out).mono ?_
      rintro e w' ⟨rfl, rfl⟩
      have HF := Lib.hid (show CSumIs cv l w _ _ from ⟨rfl, HB.out⟩)
      go_wp2_with fail
      go_ret2
      exact HF.out
end Go.Proofs.YtmakghcoehkphaaGreat
