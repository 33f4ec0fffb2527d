/-
  Reserves: a coin is leased, by any key. Conditions: the reserve lies in memory, the coins do.
-/
import Derived.Test.YtelindgnkpfkiaaVn
import Derived.Test.YtelindgnkpfkiaaTxB
namespace Go.Proofs.Ytelindgnkpfkiaa
open Go.RowKit Go.BigFrame Go.Maps
set_option linter.unusedVariables false
set_option linter.unusedSimpArgs false

/-- The predicate of a lease: is it this point? -/
theorem lease1_any (x : PEn) (p : Pt) (P : Nat) (w : World) (hP : w.heap[P]? = some (.cells #[.string p.1, .int .u32 p.2] 35 (0, 0))) :
    Calls Try.prog 27 #[.agg #[.string x.id, .int .u32 x.idx, .int .i64 x.val, .string x.script, .int .i64 x.ht], .pointer (some ⟨P, 0, none⟩)] w (BIs (decide (x.pt = p)) w) := by
  have p0 : w.cell? ⟨P, 0, none⟩ = some (.string p.1) := cell_at hP
  have p1 : w.cell? ⟨P, 1, none⟩ = some (.int .u32 p.2) := cell_at hP
  have heq : ∀ w : World, (Op.equalIn 10000 35 (.agg #[.string x.id, .int .u32 x.idx]) (.agg #[.string p.1, .int .u32 p.2])).run Try.prog w = .ok (decide (x.pt = p)) w := fun w => eqIn_pt (x.id, x.idx) p w
  obtain ⟨d, hd⟩ : ∃ d, d = decide (x.pt = p) := ⟨_, rfl⟩
  rw [← hd] at heq ⊢
  clear hd
  go_enter Try.func27, Try.ntmps27
  go_upto_region 1 with fail
  have hz := heap_alloc_new w (.cells #[.string x.id, .int .u32 x.idx, .int .i64 x.val, .string x.script, .int .i64 x.ht] 41)
  have hal : Below w.heap.size w (w.alloc (.cells #[.string x.id, .int .u32 x.idx, .int .i64 x.val, .string x.script, .int .i64 x.ht] 41)) := (Below.refl _ _).alloc (Nat.le_refl _) _
  obtain ⟨X, hX⟩ : ∃ q, q = w.heap.size := ⟨_, rfl⟩
  rw [← hX] at hz ⊢
  generalize w.alloc (.cells #[.string x.id, .int .u32 x.idx, .int .i64 x.val, .string x.script, .int .i64 x.ht] 41) = w1 at *
  have q0 : w1.cell? ⟨X, 0, none⟩ = some (.string x.id) := cell_at hz
  have q1 : w1.cell? ⟨X, 1, none⟩ = some (.int .u32 x.idx) := cell_at hz
  replace p0 := below_cells hal _ _ p0
  replace p1 := below_cells hal _ _ p1
  have HB := Lib.hid hal
  clear hz hal hX hP
  go_wp2_with fail
  go_ret
  exact ⟨rfl, HB.out⟩
set_option maxRecDepth 100000 in
set_option maxHeartbeats 2000000 in
theorem idxEn (v : Value) (xs : List PEn) (p : Pt) (P : Nat) (w : World) (hv : SlAt rpEn w v xs) (hP : w.heap[P]? = some (.cells #[.string p.1, .int .u32 p.2] 35 (0, 0))) :
    Calls Try.prog 26 #[v, .func (.func 27) #[] #[.pointer (some ⟨P, 0, none⟩)]] w fun e w' => (∃ n : Int, e = .returned (.int .i64 n) ∧ IdxIs (fun x : PEn => decide (x.pt = p)) xs n) ∧ Below w.heap.size w w' := by
  obtain ⟨a, c, rfl, hl1, hl2⟩ := hv.shape
  rw [maxLen_eq] at hl2
  obtain ⟨n, hn⟩ : ∃ n, n = xs.length := ⟨_, rfl⟩
  rw [← hn] at hv hl1 ⊢
  have HN := Lib.hid hn
  have HP := Lib.hid hP
  clear hn hP
  go_enter Try.func26, Try.ntmps26
  go_wp2_with fail
  go_loopw [5, 8] (fun _ i wr => ∃ k : Nat, k ≤ n ∧ i = .int .i64 k ∧ Below w.heap.size w wr ∧ ∀ (j : Nat) (y : PEn), j < k → xs[j]? = some y → decide (y.pt = p) = false) (fun _ i _ => n - (Go.RowKit.intOf i).toNat)
  case atStart => exact ⟨0, Nat.zero_le _, rfl, Below.refl _ _, fun j x hj => absurd hj (Nat.not_lt_zero _)⟩
  case round =>
    rename World => wo
    obtain ⟨k, hk, rfl, hbw, hsame⟩ := hrel
    have HS := Lib.hid hsame
    have HW := Lib.hid hbw
    by_cases hlt : k < n
    · obtain ⟨b, o, x, rfl, hx, hxo, d0, d1, d2, d3, d4⟩ := (hv.mono (below_cells hbw)).en hlt
      have hc := lease1_any x p P wo (stay HP.out hbw)
      have HX := Lib.hid hx
      clear hx hxo hbw hsame hv
      cases hpx : decide (x.pt = p)
      · rw [hpx] at hc
        have HC := Lib.hid hc
        have HNX := Lib.hid (before_step HS.out HX.out hpx)
        clear hc hpx
        go_wp2_with fail
        refine HC.out.mono ?_
        rintro e w1 ⟨rfl, hb1⟩
        have HB1 := Lib.hid (HW.out.trans (hb1.mono HW.out.size))
        clear hb1
        go_wp2
        go_roundw
        case rel => exact ⟨k + 1, by omega, by go_num, HB1.out, HNX.out⟩
        case measure => simp [Go.RowKit.intOf]; omega
      · rw [hpx] at hc
        have HC := Lib.hid hc
        have HFN := Lib.hid (show IdxIs (fun x : PEn => decide (x.pt = p)) xs (k : Int) from .inr ⟨k, x, rfl, HX.out, hpx, HS.out⟩)
        clear hc hpx
        go_wp2_with fail
        refine HC.out.mono ?_
        rintro e w1 ⟨rfl, hb1⟩
        have HB1 := Lib.hid (HW.out.trans (hb1.mono HW.out.size))
        clear hb1
        go_wp2
        go_ret
        exact ⟨⟨_, rfl, HFN.out⟩, HB1.out⟩
    · obtain rfl : k = n := by omega
      have HF := Lib.hid (any_no (p := fun x : PEn => decide (x.pt = p)) HN.out hsame)
      clear hsame hbw hv
      go_wp2
      go_ret
      exact ⟨⟨_, rfl, .inl ⟨rfl, HF.out⟩⟩, HW.out⟩
theorem find_idx {α : Type} {p : α → Bool} {xs : List α} {n : Int} (h : IdxIs p xs n) : (n < 0 ∧ xs.find? p = none) ∨ ∃ (k : Nat) (x : α), n = k ∧ k < xs.length ∧ xs[k]? = some x ∧ xs.find? p = some x := by
  rcases h with ⟨rfl, h⟩ | ⟨k, x, rfl, h1, h2, h3⟩
  · refine .inl ⟨by decide, ?_⟩
    rw [List.find?_eq_none]
    rw [List.any_eq_false] at h
    exact h
  · refine .inr ⟨k, x, rfl, (List.getElem?_eq_some_iff.1 h1).1, h1, ?_⟩
    obtain ⟨hk, e⟩ := List.getElem?_eq_some_iff.1 h1
    rw [List.find?_eq_some_iff_getElem]
    refine ⟨h2, k, hk, e, fun j hj => ?_⟩
    have := h3 j xs[j] hj (List.getElem?_eq_getElem (by omega))
    simpa using this
set_option maxRecDepth 100000 in
set_option maxHeartbeats 4000000 in
theorem lease_old {cn : Nat} (b m : Nat) (script : ByteArray) (M : Int → Option Pt) (key need : Int) (sl : Value) (l : List PEn) (w : World) (hr : RsM w b m script M cn) (p : Pt) (hkn : M key = some p) (hk0 : ¬ key < 0) (hg : goodA need = true) (hkey : (Lit.int .i64 key).wf = true) (hsl : SlAt rpEn w sl l) :
    Calls Try.prog 10 #[.pointer (some ⟨b, 0, none⟩), .int .i64 key, .int .i64 need, sl] w (LeaseP b m script cn (leaseF script M key need l) w) := by
  obtain ⟨R, hR⟩ : ∃ R, R = leaseF script M key need l := ⟨_, rfl⟩
  rw [← hR]
  unfold leaseF at hR
  rw [if_neg (by rintro (h | h); exact hk0 h; rw [hg] at h; cases h), hkn] at hR
  dsimp only at hR
  have HRES := Lib.hid hR
  have HRM := Lib.hid hr
  have HSL := Lib.hid hsl
  have HWF := Lib.hid hkey
  have HKN := Lib.hid hkn
  have HG := Lib.hid (fun z => hg ▸ good_any need z)
  obtain ⟨a, c, rfl, hl1, hl2⟩ := hsl.shape
  rw [maxLen_eq] at hl2
  obtain ⟨ln, hln⟩ : ∃ n, n = l.length := ⟨_, rfl⟩
  rw [← hln] at hl1 HSL ⊢
  have HLN := Lib.hid hln
  clear hsl hr hkn hkey hR hg hln
  go_enter Try.func10, Try.ntmps10
  go_upto_region 1 with fail
  have hz := heap_alloc_new w (.cells #[.string ⟨#[]⟩, .int .u32 0, .int .i64 0, .string ⟨#[]⟩, .int .i64 0] 41)
  have hal : Below w.heap.size w (w.alloc (.cells #[.string ⟨#[]⟩, .int .u32 0, .int .i64 0, .string ⟨#[]⟩, .int .i64 0] 41)) := (Below.refl _ _).alloc (Nat.le_refl _) _
  obtain ⟨X, hX⟩ : ∃ q, q = w.heap.size := ⟨_, rfl⟩
  rw [← hX] at hz ⊢
  generalize w.alloc (.cells #[.string ⟨#[]⟩, .int .u32 0, .int .i64 0, .string ⟨#[]⟩, .int .i64 0] 41) = w0 at *
  have HB0 := Lib.hid hal
  have HXW := Lib.hid hX
  have HZ0 := Lib.hid hz
  clear hz hal hX
  obtain ⟨n, D, hown, hag, hn⟩ := (HRM.out.below HB0.out).owns
  have HOWN := Lib.hid hown
  have hasf : Maps.has D (.int .i64 key) = true := by rw [hag.has, HKN.out]; rfl
  have HHAS := Lib.hid hasf
  have HAT := Lib.hid (hag.at_ key p HKN.out)
  have c1 : w0.cell? ⟨b, 1, none⟩ = some (.map (some m)) := cell_at (HRM.out.below HB0.out).box
  have hzp : (zeroValue 35).run Try.prog w0 = .ok (.agg #[.string ⟨#[]⟩, .int .u32 0]) w0 := by kernel_rfl
  clear hag hn hasf hown
  go_upto_region 6 with (first
    | (go_at_call 25; refine (HG.out _).mono ?_; rintro e w' ⟨rfl, rfl⟩)
    | (at_lookup; refine wpList_lookup_own_ok _ rfl _ _ 47 rfl 3 35 law Try.underlying47 ptElem hzp (ptDat (⟨#[]⟩, 0)) [] (ptElem_mk (⟨#[]⟩, 0)) m n D rfl HOWN.out _ (.int .i64 key) rfl (keyOf_int_mk Try.underlying3 HWF.out) ?_; intro v ps hv; rw [HHAS.out]; obtain ⟨q, rfl, hq⟩ := ptElem_inv hv; have HQ := Lib.hid (ptDat_inj ((congrArg Prod.fst hq).symm.trans (HAT.out _))); clear hv hq)
    | go_in)
  obtain rfl : q = p := HQ.out
  have hz := heap_alloc_new w0 (.cells #[.string q.1, .int .u32 q.2] 35)
  have hal : Below w0.heap.size w0 (w0.alloc (.cells #[.string q.1, .int .u32 q.2] 35)) := (Below.refl _ _).alloc (Nat.le_refl _) _
  obtain ⟨P, hP⟩ : ∃ q, q = w0.heap.size := ⟨_, rfl⟩
  rw [← hP] at hz ⊢
  generalize w0.alloc (.cells #[.string q.1, .int .u32 q.2] 35) = w1 at *
  have HB1 := Lib.hid (HB0.out.trans (hal.mono HB0.out.size))
  have HZ0 := Lib.hid (stay HZ0.out hal)
  have HP0 := Lib.hid hz
  clear hz hal hP HOWN HHAS hzp c1 HB0 HG HQ HAT
  go_wp2_with fail
  refine (idxEn _ l q P w1 (HSL.out.below HB1.out) HP0.out).mono ?_
  rintro e w2 ⟨⟨ix, rfl, hix⟩, hxc⟩
  have HB2 := Lib.hid (HB1.out.trans (hxc.mono HB1.out.size))
  have HZ0 := Lib.hid (stay HZ0.out hxc)
  clear hxc HB1 HP0
  rcases find_idx hix with ⟨hi0, hfn⟩ | ⟨k, y, rfl, hkl, hky, hfn⟩
  · have HR2 := Lib.hid (HRES.out.trans (by rw [hfn]))
    clear hix hfn
    obtain ⟨r1, rk, r3⟩ := five_cells HZ0.out (.string ⟨#[]⟩) (.int .u32 0) (.int .i64 0) (.string ⟨#[]⟩) (.int .i64 0)
    have HR1 := Lib.hid r1
    have HRK := Lib.hid rk
    have HBX := Lib.hid (r3 w.heap.size (by rw [HXW.out]; exact Nat.le_refl _))
    clear r1 r3 rk
    have x0 : w2.cell? ⟨X, 0, none⟩ = some (.string ⟨#[]⟩) := cell_at HZ0.out
    have f0 : w2.frozen? ⟨X, 0, none⟩ = false := free_at HZ0.out
    have x1 : w2.cell? ⟨X, 1, none⟩ = some (.int .u32 0) := cell_at HZ0.out
    have f1 : w2.frozen? ⟨X, 1, none⟩ = false := free_at HZ0.out
    have x2 : w2.cell? ⟨X, 2, none⟩ = some (.int .i64 0) := cell_at HZ0.out
    have f2 : w2.frozen? ⟨X, 2, none⟩ = false := free_at HZ0.out
    have x3 : w2.cell? ⟨X, 3, none⟩ = some (.string ⟨#[]⟩) := cell_at HZ0.out
    have f3 : w2.frozen? ⟨X, 3, none⟩ = false := free_at HZ0.out
    have x4 : w2.cell? ⟨X, 4, none⟩ = some (.int .i64 0) := cell_at HZ0.out
    have f4 : w2.frozen? ⟨X, 4, none⟩ = false := free_at HZ0.out
    go_wp2_with fail
    clear x0 x1 x2 x3 x4 f0 f1 f2 f3 f4
    generalize (((((w2.setCell ⟨X, 0, none⟩ (.string ⟨#[]⟩)).setCell ⟨X, 1, none⟩ (.int .u32 0)).setCell ⟨X, 2, none⟩ (.int .i64 0)).setCell ⟨X, 3, none⟩ (.string ⟨#[]⟩)).setCell ⟨X, 4, none⟩ (.int .i64 0)) = wf at *
    have r0 : wf.cell? ⟨X, 0, none⟩ = some (.string ⟨#[]⟩) := cell_at HR1.out
    have r1 : wf.cell? ⟨X, 1, none⟩ = some (.int .u32 0) := cell_at HR1.out
    have r2 : wf.cell? ⟨X, 2, none⟩ = some (.int .i64 0) := cell_at HR1.out
    have r3 : wf.cell? ⟨X, 3, none⟩ = some (.string ⟨#[]⟩) := cell_at HR1.out
    have r4 : wf.cell? ⟨X, 4, none⟩ = some (.int .i64 0) := cell_at HR1.out
    refine bodyPost_ret (v := .tuple #[.agg #[.string ⟨#[]⟩, .int .u32 0, .int .i64 0, .string ⟨#[]⟩, .int .i64 0], .int .i64 17]) (by simp [results, Try.results10, go_sem, r0, r1, r2, r3, r4]) rfl ?_
    have HBF := HB2.out.trans HBX.out
    exact ⟨by rw [HR2.out]; rfl, below_grown HBF rfl, by rw [HR2.out]; exact (HRM.out.below HBF).more (Nat.le_succ _)⟩
  · have HR2 := Lib.hid (HRES.out.trans (by rw [hfn]))
    have hkln : k < ln := by rw [HLN.out]; exact hkl
    obtain ⟨sb, so, y', rfl, hy', hyo, d0, d1, d2, d3, d4⟩ := (HSL.out.below HB2.out).en hkln
    rw [hky] at hy'
    obtain rfl := Option.some.inj hy'
    clear hix hfn hky hkl hy' hyo
    obtain ⟨r1, rk, r3⟩ := five_cells HZ0.out (.string y.id) (.int .u32 y.idx) (.int .i64 y.val) (.string y.script) (.int .i64 y.ht)
    have HR1 := Lib.hid r1
    have HRK := Lib.hid rk
    have HBX := Lib.hid (r3 w.heap.size (by rw [HXW.out]; exact Nat.le_refl _))
    clear r1 r3 rk
    have x0 : w2.cell? ⟨X, 0, none⟩ = some (.string ⟨#[]⟩) := cell_at HZ0.out
    have f0 : w2.frozen? ⟨X, 0, none⟩ = false := free_at HZ0.out
    have x1 : w2.cell? ⟨X, 1, none⟩ = some (.int .u32 0) := cell_at HZ0.out
    have f1 : w2.frozen? ⟨X, 1, none⟩ = false := free_at HZ0.out
    have x2 : w2.cell? ⟨X, 2, none⟩ = some (.int .i64 0) := cell_at HZ0.out
    have f2 : w2.frozen? ⟨X, 2, none⟩ = false := free_at HZ0.out
    have x3 : w2.cell? ⟨X, 3, none⟩ = some (.string ⟨#[]⟩) := cell_at HZ0.out
    have f3 : w2.frozen? ⟨X, 3, none⟩ = false := free_at HZ0.out
    have x4 : w2.cell? ⟨X, 4, none⟩ = some (.int .i64 0) := cell_at HZ0.out
    have f4 : w2.frozen? ⟨X, 4, none⟩ = false := free_at HZ0.out
    go_wp2_with fail
    clear x0 x1 x2 x3 x4 f0 f1 f2 f3 f4 d0 d1 d2 d3 d4
    generalize (((((w2.setCell ⟨X, 0, none⟩ (.string y.id)).setCell ⟨X, 1, none⟩ (.int .u32 y.idx)).setCell ⟨X, 2, none⟩ (.int .i64 y.val)).setCell ⟨X, 3, none⟩ (.string y.script)).setCell ⟨X, 4, none⟩ (.int .i64 y.ht)) = wf at *
    have r0 : wf.cell? ⟨X, 0, none⟩ = some (.string y.id) := cell_at HR1.out
    have r1 : wf.cell? ⟨X, 1, none⟩ = some (.int .u32 y.idx) := cell_at HR1.out
    have r2 : wf.cell? ⟨X, 2, none⟩ = some (.int .i64 y.val) := cell_at HR1.out
    have r3 : wf.cell? ⟨X, 3, none⟩ = some (.string y.script) := cell_at HR1.out
    have r4 : wf.cell? ⟨X, 4, none⟩ = some (.int .i64 y.ht) := cell_at HR1.out
    refine bodyPost_ret (v := .tuple #[.agg #[.string y.id, .int .u32 y.idx, .int .i64 y.val, .string y.script, .int .i64 y.ht], .int .i64 0]) (by simp [results, Try.results10, go_sem, r0, r1, r2, r3, r4]) rfl ?_
    have HBF := HB2.out.trans HBX.out
    exact ⟨by rw [HR2.out]; rfl, below_grown HBF rfl, by rw [HR2.out]; exact (HRM.out.below HBF).more (Nat.le_succ _)⟩
theorem leaseF_E {script : ByteArray} {M : Int → Option Pt} {key need : Int} {l : List PEn} (h : M key = none ∨ key < 0 ∨ goodA need = false) : leaseF script M key need l = leaseE script M key need l := by
  unfold leaseF leaseE
  by_cases hk : key < 0 ∨ goodA need = false
  · rw [if_pos hk, if_pos hk]
  · rw [if_neg hk, if_neg hk]
    rcases h with h | h
    · rw [h]; rfl
    · exact absurd h hk
theorem lease_any {cn : Nat} (b m : Nat) (script : ByteArray) (M : Int → Option Pt) (key need : Int) (sl : Value) (l : List PEn) (w : World) (hr : RsM w b m script M cn) (hcn : cn < 1000000) (hkey : (Lit.int .i64 key).wf = true) (hsl : SlAt rpEn w sl l) :
    Calls Try.prog 10 #[.pointer (some ⟨b, 0, none⟩), .int .i64 key, .int .i64 need, sl] w (LeaseP b m script cn (leaseF script M key need l) w) := by
  by_cases h : M key = none ∨ key < 0 ∨ goodA need = false
  · rw [leaseF_E h]
    exact lease_gen b m script M key need sl l w hr hcn h hkey hsl
  · cases hM : M key with
    | none => exact absurd (.inl hM) h
    | some p => exact lease_old b m script M key need sl l w hr p hM (fun hk => h (.inr (.inl hk))) (by cases hg : goodA need; exact absurd (.inr (.inr hg)) h; rfl) hkey hsl
end Go.Proofs.Ytelindgnkpfkiaa
