/-
  Reserves: a lease is restored; what a key has leased; the script. Conditions: the reserve lies in memory.
-/
import Derived.Test.YtelindgnkpfkiaaVo
namespace Go.Proofs.Ytelindgnkpfkiaa
open Go.RowKit Go.BigFrame Go.Maps
set_option linter.unusedVariables false
set_option linter.unusedSimpArgs false

theorem rscr_any {cn : Nat} (b m : Nat) (script : ByteArray) (M : Int → Option Pt) (w : World) (hr : RsM w b m script M cn) : Calls Try.prog 14 #[.pointer (some ⟨b, 0, none⟩)] w fun e w' => e = .returned (.string script) ∧ w = w' := by
  have c0 : w.cell? ⟨b, 0, none⟩ = some (.string script) := cell_at hr.box
  clear hr
  go_enter Try.func14, Try.ntmps14
  go_wp2_with fail
  go_ret
  exact ⟨rfl, rfl⟩
def RR (b m X : Nat) (key : Int) (s : ByteArray) (n : Nat) : Nat → Fact
  | 0 => .val fun _ => .pointer (some ⟨b, 0, none⟩)
  | 1 => .val fun _ => .pointer (some ⟨b, 0, none⟩)
  | 2 => .val fun _ => .pointer (some ⟨b, 1, none⟩)
  | 3 => .val fun _ => .map (some m)
  | 4 => .val fun _ => .int .i64 key
  | 5 => .val fun _ => .agg #[.string s, .int .u32 n]
  | _ => .val fun _ => undef
def RestP (b m : Nat) (script : ByteArray) (cn : Nat) (r : Int × (Int → Option Pt)) (w : World) (e : Ending) (w' : World) : Prop :=
  e = .returned (.int .i64 r.1) ∧ w.grownBy w' (some m) ∧ RsM w' b m script r.2 (cn + 1)
set_option maxRecDepth 100000 in
set_option maxHeartbeats 4000000 in
theorem restore_any {cn : Nat} (b m : Nat) (script : ByteArray) (M : Int → Option Pt) (key : Int) (p : Pt) (w : World) (hr : RsM w b m script M cn) (hcn : cn < 1000000) (hkey : (Lit.int .i64 key).wf = true) (hp : p.1.size ≤ 9223372036854775807) :
    Calls Try.prog 13 #[.pointer (some ⟨b, 0, none⟩), .int .i64 key, .agg #[.string p.1, .int .u32 p.2]] w (RestP b m script cn (restE M key p) w) := by
  obtain ⟨R, hR⟩ : ∃ R, R = restE M key p := ⟨_, rfl⟩
  rw [← hR]
  unfold restE at hR
  have HRES := Lib.hid hR
  have HRM := Lib.hid hr
  have HWF := Lib.hid hkey
  have HCN := Lib.hid hcn
  clear hR hr hkey hcn
  go_enter Try.func13, Try.ntmps13
  go_upto_region 1 with fail
  have hz := heap_alloc_new w (.cells #[.string p.1, .int .u32 p.2] 35)
  have hal : Below w.heap.size w (w.alloc (.cells #[.string p.1, .int .u32 p.2] 35)) := (Below.refl _ _).alloc (Nat.le_refl _) _
  obtain ⟨X, hX⟩ : ∃ q, q = w.heap.size := ⟨_, rfl⟩
  rw [← hX] at hz ⊢
  generalize w.alloc (.cells #[.string p.1, .int .u32 p.2] 35) = w0 at *
  have HB0 := Lib.hid hal
  have HXW := Lib.hid hX
  have HZ0 := Lib.hid hz
  have u0 : w0.cell? ⟨X, 0, none⟩ = some (.string p.1) := cell_at hz
  have u1 : w0.cell? ⟨X, 1, none⟩ = some (.int .u32 p.2) := cell_at hz
  clear hz hal hX
  by_cases hk0 : key < 0
  · have HR2 := Lib.hid (HRES.out.trans (if_pos (.inl hk0)))
    go_wp2_with fail
    go_ret
    exact ⟨by rw [HR2.out]; rfl, below_grown HB0.out rfl, by rw [HR2.out]; exact (HRM.out.below HB0.out).more (Nat.le_succ _)⟩
  by_cases hsz : p.1.size = 32
  rotate_left
  · have HR2 := Lib.hid (HRES.out.trans (if_pos (.inr hsz)))
    have hs1 : ¬ ((p.1.size : Int) = 32) := by omega
    go_wp2_with fail
    go_ret
    exact ⟨by rw [HR2.out]; rfl, below_grown HB0.out rfl, by rw [HR2.out]; exact (HRM.out.below HB0.out).more (Nat.le_succ _)⟩
  have HR1 := Lib.hid (HRES.out.trans (if_neg (by rintro (h | h); exact hk0 h; exact h hsz)))
  have hs1 : (p.1.size : Int) = 32 := by omega
  clear hp
  have HSZ := Lib.hid hsz
  clear hsz
  obtain ⟨n, D, hown, hag, hn⟩ := (HRM.out.below HB0.out).owns
  have HOWN := Lib.hid hown
  have hasf : Maps.has D (.int .i64 key) = (M key).isSome := hag.has key
  have HHAS := Lib.hid hasf
  have c1 : w0.cell? ⟨b, 1, none⟩ = some (.map (some m)) := cell_at (HRM.out.below HB0.out).box
  have hzp : (zeroValue 35).run Try.prog w0 = .ok (.agg #[.string ⟨#[]⟩, .int .u32 0]) w0 := by kernel_rfl
  clear hag hn hasf hown
  go_upto_region 6 with (first
    | (at_lookup; refine wpList_lookup_own_ok _ rfl _ _ 47 rfl 3 35 law Try.underlying47 ptElem hzp (ptDat (⟨#[]⟩, 0)) [] (ptElem_mk (⟨#[]⟩, 0)) m n D rfl HOWN.out _ (.int .i64 key) rfl (keyOf_int_mk Try.underlying3 HWF.out) ?_; intro v ps hv; rw [HHAS.out]; obtain ⟨q, rfl, -⟩ := ptElem_inv hv; clear hv)
    | go_in)
  have hz := heap_alloc_new w0 (.cells #[.string q.1, .int .u32 q.2] 35)
  have hal : Below w0.heap.size w0 (w0.alloc (.cells #[.string q.1, .int .u32 q.2] 35)) := (Below.refl _ _).alloc (Nat.le_refl _) _
  obtain ⟨P, hP⟩ : ∃ q, q = w0.heap.size := ⟨_, rfl⟩
  rw [← hP] at hz ⊢
  generalize w0.alloc (.cells #[.string q.1, .int .u32 q.2] 35) = w1 at *
  have HB1 := Lib.hid (HB0.out.trans (hal.mono HB0.out.size))
  have HRM1 := Lib.hid (HRM.out.below HB1.out)
  replace u0 := below_cells hal _ _ u0
  replace u1 := below_cells hal _ _ u1
  clear hz hal hP HOWN HHAS hzp c1 HB0 hs1
  cases hM : M key with
  | some o =>
    have HR2 := Lib.hid (HR1.out.trans (if_pos (.inl (by rw [hM]; rfl))))
    clear hM
    simp only [Option.isSome_some]
    go_wp2_with fail
    go_ret
    exact ⟨by rw [HR2.out]; rfl, below_grown HB1.out rfl, by rw [HR2.out]; exact HRM1.out.more (Nat.le_succ _)⟩
  | none =>
    have HMN := Lib.hid hM
    clear hM
    simp only [Option.isSome_none]
    obtain ⟨tk, htk⟩ : ∃ tk, tk = takenB M p := ⟨_, rfl⟩
    have HTK := Lib.hid htk
    have HT := Lib.hid (show Calls Try.prog 29 #[.pointer (some ⟨b, 0, none⟩), .agg #[.string p.1, .int .u32 p.2]] w1 (BIs tk w1) from htk ▸ taken_any b m script M p w1 HRM1.out)
    clear htk
    cases tk
    rotate_left
    · have HR2 := Lib.hid (HR1.out.trans (if_pos (.inr HTK.out.symm)))
      go_wp2_with (go_at_call 29; refine HT.out.mono ?_; rintro e w2 ⟨rfl, hxc⟩)
      have HB2 := Lib.hid (HB1.out.trans (hxc.mono HB1.out.size))
      clear hxc
      go_ret
      exact ⟨by rw [HR2.out]; rfl, below_grown HB2.out rfl, by rw [HR2.out]; exact (HRM.out.below HB2.out).more (Nat.le_succ _)⟩
    have HR2 := Lib.hid (HR1.out.trans (if_neg (by rw [HMN.out, ← HTK.out]; rintro (h | h) <;> cases h)))
    go_upto_region 8 with (go_at_call 29; refine HT.out.mono ?_; rintro e w2 ⟨rfl, hxc⟩)
    have HB2 := Lib.hid (HB1.out.trans (hxc.mono HB1.out.size))
    have HRM2 := Lib.hid (HRM.out.below HB2.out)
    have c1 : w2.cell? ⟨b, 1, none⟩ = some (.map (some m)) := cell_at HRM2.out.box
    replace u0 := below_cells hxc _ _ u0
    replace u1 := below_cells hxc _ _ u1
    clear hxc HB1 HRM1 HT
    refine wp_region_made (RR b m X key p.1 p.2) 6 (by kernel_rfl) (by kernel_rfl) (by kernel_rfl) (by kernel_rfl) (by decide) (by kernel_rfl) ?_ ?_
    · intro i o hi ho L xs lo hi' wr hmd hni hpre
      obtain ⟨x0, x1, x2, x3, x4, x5, rfl⟩ : ∃ x0 x1 x2 x3 x4 x5, xs = [x0, x1, x2, x3, x4, x5] := by match xs, hmd.len with | [x0, x1, x2, x3, x4, x5], _ => exact ⟨_, _, _, _, _, _, rfl⟩
      match i, ho with
      | 0, ho =>
        obtain rfl := Option.some.inj ho
        have kk := fun lx ox ax => @step_pure Try.prog (RR b m X key p.1 p.2) lx [x0, x1, x2, x3, x4, x5] ox ax wr 0 (.pointer (some ⟨b, 0, none⟩))
        refine kk _ _ _ ?_ ?_
        · kernel_rfl
        · exact rfl
      | 1, ho =>
        obtain rfl := Option.some.inj ho
        have h_0 : x0 = .pointer (some ⟨b, 0, none⟩) := hmd.rel 0 (hpre 0 (by kernel_rfl))
        subst h_0
        have kk := fun lx ox ax => @step_pure Try.prog (RR b m X key p.1 p.2) lx [(.pointer (some ⟨b, 0, none⟩)), x1, x2, x3, x4, x5] ox ax wr 1 (.pointer (some ⟨b, 0, none⟩))
        refine kk _ _ _ ?_ ?_
        · kernel_rfl
        · exact rfl
      | 2, ho =>
        obtain rfl := Option.some.inj ho
        have h_1 : x1 = .pointer (some ⟨b, 0, none⟩) := hmd.rel 1 (hpre 1 (by kernel_rfl))
        subst h_1
        have kk := fun lx ox ax => @step_pure Try.prog (RR b m X key p.1 p.2) lx [x0, (.pointer (some ⟨b, 0, none⟩)), x2, x3, x4, x5] ox ax wr 2 (.pointer (some ⟨b, 1, none⟩))
        refine kk _ _ _ ?_ ?_
        · kernel_rfl
        · exact rfl
      | 3, ho =>
        obtain rfl := Option.some.inj ho
        have h_2 : x2 = .pointer (some ⟨b, 1, none⟩) := hmd.rel 2 (hpre 2 (by kernel_rfl))
        subst h_2
        have t1 := below_cells hmd.bel _ _ c1
        have kk := fun lx ox ax => @step_pure Try.prog (RR b m X key p.1 p.2) lx [x0, x1, (.pointer (some ⟨b, 1, none⟩)), x3, x4, x5] ox ax wr 3 (.map (some m))
        refine kk _ _ _ ?_ ?_
        · simp [putAll, execOp, go_sem, t1]
        · exact rfl
      | 4, ho =>
        obtain rfl := Option.some.inj ho
        have kk := fun lx ox ax => @step_pure Try.prog (RR b m X key p.1 p.2) lx [x0, x1, x2, x3, x4, x5] ox ax wr 4 (.int .i64 key)
        refine kk _ _ _ ?_ ?_
        · kernel_rfl
        · exact rfl
      | 5, ho =>
        obtain rfl := Option.some.inj ho
        have t0 := below_cells hmd.bel _ _ u0
        have t1 := below_cells hmd.bel _ _ u1
        have kk := fun lx ox ax => @step_pure Try.prog (RR b m X key p.1 p.2) lx [x0, x1, x2, x3, x4, x5] ox ax wr 5 (.agg #[.string p.1, .int .u32 p.2])
        refine kk _ _ _ ?_ ?_
        · simp [putAll, execOp, go_sem, t0, t1]
        · exact rfl
      | q + 6, ho => omega
    · intro xs lo hi wr hmd
      obtain ⟨x0, x1, x2, x3, x4, x5, rfl⟩ : ∃ x0 x1 x2 x3 x4 x5, xs = [x0, x1, x2, x3, x4, x5] := by match xs, hmd.len with | [x0, x1, x2, x3, x4, x5], _ => exact ⟨_, _, _, _, _, _, rfl⟩
      simp only [putAll]
      change wpList _ _ _ (_ :: []) _ _
      have e3 : x3 = .map (some m) := hmd.rel 3 (by decide)
      have e4 : x4 = .int .i64 key := hmd.rel 4 (by decide)
      have e5 : x5 = .agg #[.string p.1, .int .u32 p.2] := hmd.rel 5 (by decide)
      subst e3 e4 e5
      have HB4 := Lib.hid (HB2.out.trans (hmd.bel.mono HB2.out.size))
      clear hmd u0 u1 c1
      have hrm := HRM.out.below HB4.out
      obtain ⟨n, D, hown, hag, hn⟩ := hrm.owns
      have HBX' := Lib.hid hrm.box
      have HNE := Lib.hid hrm.ne
      have HAG := Lib.hid hag
      have HOWN := Lib.hid hown
      have hn' : n < maxLen := by have := HCN.out; rw [maxLen_eq]; omega
      have HN' := Lib.hid hn'
      have HNC := Lib.hid hn
      clear hrm hown hag hn hn'
      refine wpList_mapUpdate_own _ ?_ (.tmp 39) (.tmp 40) (.tmp 41) 47 ?_ 3 35 law Try.underlying47 ptElem m n D ?_ HOWN.out HN'.out (.int .i64 key) (.agg #[.string p.1, .int .u32 p.2]) (.int .i64 key) ?_ ?_ (keyOf_int_mk Try.underlying3 HWF.out) (ptDat p) [] (ptElem_mk p) ?_
      · rfl
      · rfl
      · kernel_rfl
      · kernel_rfl
      · kernel_rfl
      intro w5 hown5 hg5
      have HG5 := Lib.hid (World.grownBy.trans (below_grown (row := some m) HB4.out rfl) hg5)
      have HBX' := Lib.hid ((hg5.block b (lt_of HBX'.out) (by have := HNE.out; intro e; cases e; exact this rfl)).trans HBX'.out)
      have HOWN5 := Lib.hid hown5
      clear hown5 hg5
      go_wp2_with fail
      go_ret
      refine ⟨by rw [HR2.out]; rfl, HG5.out, ?_⟩
      rw [HR2.out]
      exact ⟨HBX'.out, ⟨n + 1, _, HOWN5.out, HAG.out.put key p, by have := HNC.out; omega⟩, HNE.out⟩

theorem two_cells {w : World} {X : Nat} {u0 u1 : Value} {t : TypeId} (h : w.heap[X]? = some (.cells #[u0, u1] t (0, 0))) (v0 v1 : Value) :
    ((w.setCell ⟨X, 0, none⟩ v0).setCell ⟨X, 1, none⟩ v1).heap[X]? = some (.cells #[v0, v1] t (0, 0)) ∧ (∀ b, b ≠ X → ((w.setCell ⟨X, 0, none⟩ v0).setCell ⟨X, 1, none⟩ v1).heap[b]? = w.heap[b]?) ∧
    (∀ B, B ≤ X → Below B w ((w.setCell ⟨X, 0, none⟩ v0).setCell ⟨X, 1, none⟩ v1)) := by
  have q1 := heap_setCell_at (j := 0) (u := v0) h
  have q2 := heap_setCell_at (j := 1) (u := v1) q1
  refine ⟨q2, fun b hb => ?_, fun B hB => ?_⟩
  · rw [Below.heap_setCell _ _ _ _ hb, Below.heap_setCell _ _ _ _ hb]
  · exact ((Below.refl B w).setCell (p := ⟨X, 0, none⟩) hB _).setCell (p := ⟨X, 1, none⟩) hB _
def LeasedP (o : Option Pt) (w : World) (e : Ending) (w' : World) : Prop := e = .returned (.tuple #[.agg #[.string (o.getD (⟨#[]⟩, 0)).1, .int .u32 (o.getD (⟨#[]⟩, 0)).2], .bool o.isSome]) ∧ Below w.heap.size w w'
set_option maxRecDepth 100000 in
set_option maxHeartbeats 4000000 in
theorem leased_any {cn : Nat} (b m : Nat) (script : ByteArray) (M : Int → Option Pt) (key : Int) (w : World) (hr : RsM w b m script M cn) (hkey : (Lit.int .i64 key).wf = true) :
    Calls Try.prog 16 #[.pointer (some ⟨b, 0, none⟩), .int .i64 key] w (LeasedP (M key) w) := by
  have HRM := Lib.hid hr
  have HWF := Lib.hid hkey
  obtain ⟨o, ho⟩ : ∃ o, o = M key := ⟨_, rfl⟩
  rw [← ho]
  have HO := Lib.hid ho
  clear hr hkey ho
  go_enter Try.func16, Try.ntmps16
  go_upto_region 1 with fail
  have hz := heap_alloc_new w (.cells #[.string ⟨#[]⟩, .int .u32 0] 35)
  have hal : Below w.heap.size w (w.alloc (.cells #[.string ⟨#[]⟩, .int .u32 0] 35)) := (Below.refl _ _).alloc (Nat.le_refl _) _
  obtain ⟨X, hX⟩ : ∃ q, q = w.heap.size := ⟨_, rfl⟩
  rw [← hX] at hz ⊢
  generalize w.alloc (.cells #[.string ⟨#[]⟩, .int .u32 0] 35) = w0 at *
  have HB0 := Lib.hid hal
  have HXW := Lib.hid hX
  have HZ0 := Lib.hid hz
  clear hz hal hX
  obtain ⟨n, D, hown, hag, hn⟩ := (HRM.out.below HB0.out).owns
  have HOWN := Lib.hid hown
  have hasf : Maps.has D (.int .i64 key) = o.isSome := by rw [hag.has key, HO.out]
  have HHAS := Lib.hid hasf
  have HAG := Lib.hid hag
  have c1 : w0.cell? ⟨b, 1, none⟩ = some (.map (some m)) := cell_at (HRM.out.below HB0.out).box
  have hzp : (zeroValue 35).run Try.prog w0 = .ok (.agg #[.string ⟨#[]⟩, .int .u32 0]) w0 := by kernel_rfl
  clear hag hn hasf hown
  go_upto_region 4 with (first
    | (at_lookup; refine wpList_lookup_own_ok _ rfl _ _ 47 rfl 3 35 law Try.underlying47 ptElem hzp (ptDat (⟨#[]⟩, 0)) [] (ptElem_mk (⟨#[]⟩, 0)) m n D rfl HOWN.out _ (.int .i64 key) rfl (keyOf_int_mk Try.underlying3 HWF.out) ?_; intro v ps hv; rw [HHAS.out]; obtain ⟨q, rfl, hq⟩ := ptElem_inv hv; have HQ := Lib.hid (congrArg Prod.fst hq); clear hv hq)
    | go_in)
  have HQ2 := Lib.hid (show q = o.getD (⟨#[]⟩, 0) by
    cases hoo : o with
    | none =>
      have h1 := HQ.out
      have h2 : Maps.has D (.int .i64 key) = false := by rw [HHAS.out, hoo]; rfl
      dsimp only at h1
      rw [atKey_of_not_has h2] at h1
      exact (ptDat_inj h1).symm
    | some p =>
      have h1 := HQ.out
      dsimp only at h1
      rw [HAG.out.at_ key p (by rw [← HO.out, hoo])] at h1
      exact (ptDat_inj h1).symm)
  have hz := heap_alloc_new w0 (.cells #[.string q.1, .int .u32 q.2] 35)
  have hal : Below w0.heap.size w0 (w0.alloc (.cells #[.string q.1, .int .u32 q.2] 35)) := (Below.refl _ _).alloc (Nat.le_refl _) _
  obtain ⟨P, hP⟩ : ∃ q, q = w0.heap.size := ⟨_, rfl⟩
  rw [← hP] at hz ⊢
  generalize w0.alloc (.cells #[.string q.1, .int .u32 q.2] 35) = w1 at *
  have HB1 := Lib.hid (HB0.out.trans (hal.mono HB0.out.size))
  have HZ0 := Lib.hid (stay HZ0.out hal)
  have p0 : w1.cell? ⟨P, 0, none⟩ = some (.string q.1) := cell_at hz
  have p1 : w1.cell? ⟨P, 1, none⟩ = some (.int .u32 q.2) := cell_at hz
  clear hz hal hP HOWN HHAS hzp c1 HB0 HQ
  obtain ⟨r1, rk, r3⟩ := two_cells HZ0.out (.string q.1) (.int .u32 q.2)
  have HR1 := Lib.hid r1
  have HBX := Lib.hid (r3 w.heap.size (by rw [HXW.out]; exact Nat.le_refl _))
  clear r1 r3 rk
  have x0 : w1.cell? ⟨X, 0, none⟩ = some (.string ⟨#[]⟩) := cell_at HZ0.out
  have f0 : w1.frozen? ⟨X, 0, none⟩ = false := free_at HZ0.out
  have x1 : w1.cell? ⟨X, 1, none⟩ = some (.int .u32 0) := cell_at HZ0.out
  have f1 : w1.frozen? ⟨X, 1, none⟩ = false := free_at HZ0.out
  go_wp2_with fail
  clear x0 x1 f0 f1 p0 p1
  generalize ((w1.setCell ⟨X, 0, none⟩ (.string q.1)).setCell ⟨X, 1, none⟩ (.int .u32 q.2)) = wf at *
  have r0 : wf.cell? ⟨X, 0, none⟩ = some (.string q.1) := cell_at HR1.out
  have r1 : wf.cell? ⟨X, 1, none⟩ = some (.int .u32 q.2) := cell_at HR1.out
  refine bodyPost_ret (v := .tuple #[.agg #[.string q.1, .int .u32 q.2], .bool o.isSome]) (by simp [results, Try.results16, go_sem, r0, r1]) rfl ?_
  exact ⟨by rw [← HQ2.out], HB1.out.trans HBX.out⟩
end Go.Proofs.Ytelindgnkpfkiaa
