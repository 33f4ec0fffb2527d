/-
  Reserves: a coin is leased, by a key that has none. Conditions: the reserve lies in memory, the coins do.
-/
import Derived.Test.YtelindgnkpfkiaaVe
import Derived.Test.YtelindgnkpfkiaaTxA
namespace Go.Proofs.Ytelindgnkpfkiaa
open Go.RowKit Go.BigFrame Go.Maps
set_option linter.unusedVariables false
set_option linter.unusedSimpArgs false

def RL (b m X : Nat) (key : Int) (s : ByteArray) (n : Nat) : Nat → Fact
  | 0 => .val fun _ => .pointer (some ⟨b, 0, none⟩)
  | 1 => .val fun _ => .pointer (some ⟨b, 0, none⟩)
  | 2 => .val fun _ => .pointer (some ⟨b, 1, none⟩)
  | 3 => .val fun _ => .map (some m)
  | 4 => .val fun _ => .int .i64 key
  | 5 => .val fun _ => .pointer (some ⟨X, 0, none⟩)
  | 6 => .val fun _ => .agg #[.string s, .int .u32 n]
  | _ => .val fun _ => undef
/-- What a lease answers, and the map behind it. -/
noncomputable def leaseE (script : ByteArray) (M : Int → Option Pt) (key need : Int) (l : List PEn) : PEn × Int × (Int → Option Pt) :=
  if key < 0 ∨ goodA need = false then (zEn, 2, M)
  else match chooseL script need (takenB M) l with
    | none => (zEn, 8, M)
    | some x => (x, 0, putM M key (some x.pt))
def LeaseP (b m : Nat) (script : ByteArray) (cn : Nat) (r : PEn × Int × (Int → Option Pt)) (w : World) (e : Ending) (w' : World) : Prop :=
  e = .returned (.tuple #[.agg (enC r.1), .int .i64 r.2.1]) ∧ w.grownBy w' (some m) ∧ RsM w' b m script r.2.2 (cn + 1)
theorem below_grown {B : Nat} {w w' : World} {row : Option Nat} (h : Below B w w') (hB : B = w.heap.size) : w.grownBy w' row := by
  subst hB
  exact ⟨h.os, h.tape, h.output, h.size, fun k hk _ => h.block k hk⟩
theorem RsM.more {w : World} {b m : Nat} {script : ByteArray} {M : Int → Option Pt} {cn cn' : Nat} (h : RsM w b m script M cn) (hc : cn ≤ cn') : RsM w b m script M cn' := by
  obtain ⟨n, D, h1, h2, h3⟩ := h.owns
  exact ⟨h.box, ⟨n, D, h1, h2, by omega⟩, h.ne⟩
set_option maxRecDepth 100000 in
set_option maxHeartbeats 4000000 in
theorem lease_gen {cn : Nat} (b m : Nat) (script : ByteArray) (M : Int → Option Pt) (key need : Int) (sl : Value) (l : List PEn) (w : World) (hr : RsM w b m script M cn) (hcn : cn < 1000000) (hkn : M key = none ∨ key < 0 ∨ goodA need = false) (hkey : (Lit.int .i64 key).wf = true) (hsl : SlAt rpEn w sl l) :
    Calls Try.prog 10 #[.pointer (some ⟨b, 0, none⟩), .int .i64 key, .int .i64 need, sl] w (LeaseP b m script cn (leaseE script M key need l) w) := by
  obtain ⟨R, hR⟩ : ∃ R, R = leaseE script M key need l := ⟨_, rfl⟩
  rw [← hR]
  unfold leaseE at hR
  have HRES := Lib.hid hR
  clear hR
  have HRM := Lib.hid hr
  have HSL := Lib.hid hsl
  have HWF := Lib.hid hkey
  have HKN := Lib.hid hkn
  obtain ⟨a, c, rfl, hl1, hl2⟩ := hsl.shape
  have HCN := Lib.hid hcn
  clear hsl hr hkn hkey hl1 hl2 hcn
  go_enter Try.func10, Try.ntmps10
  go_upto_region 1 with fail
  have hz := heap_alloc_new w (.cells #[.string ⟨#[]⟩, .int .u32 0, .int .i64 0, .string ⟨#[]⟩, .int .i64 0] 41)
  have hal : Below w.heap.size w (w.alloc (.cells #[.string ⟨#[]⟩, .int .u32 0, .int .i64 0, .string ⟨#[]⟩, .int .i64 0] 41)) := (Below.refl _ _).alloc (Nat.le_refl _) _
  obtain ⟨X, hX⟩ : ∃ q, q = w.heap.size := ⟨_, rfl⟩
  rw [← hX] at hz ⊢
  generalize w.alloc (.cells #[.string ⟨#[]⟩, .int .u32 0, .int .i64 0, .string ⟨#[]⟩, .int .i64 0] 41) = w0 at *
  have HB0 := Lib.hid hal
  have HXW := Lib.hid hX
  have HZ0 := Lib.hid hz
  clear hz hal hX
  by_cases hk0 : key < 0
  · have HR2 := Lib.hid (HRES.out.trans (if_pos (.inl hk0)))
    obtain ⟨r1, rk, r3⟩ := five_cells HZ0.out (.string ⟨#[]⟩) (.int .u32 0) (.int .i64 0) (.string ⟨#[]⟩) (.int .i64 0)
    have HR1 := Lib.hid r1
    have HRK := Lib.hid rk
    have HB2 := Lib.hid (r3 w.heap.size (by rw [HXW.out]; exact Nat.le_refl _))
    clear r1 r3 rk
    have x0 : w0.cell? ⟨X, 0, none⟩ = some (.string ⟨#[]⟩) := cell_at HZ0.out
    have f0 : w0.frozen? ⟨X, 0, none⟩ = false := free_at HZ0.out
    have x1 : w0.cell? ⟨X, 1, none⟩ = some (.int .u32 0) := cell_at HZ0.out
    have f1 : w0.frozen? ⟨X, 1, none⟩ = false := free_at HZ0.out
    have x2 : w0.cell? ⟨X, 2, none⟩ = some (.int .i64 0) := cell_at HZ0.out
    have f2 : w0.frozen? ⟨X, 2, none⟩ = false := free_at HZ0.out
    have x3 : w0.cell? ⟨X, 3, none⟩ = some (.string ⟨#[]⟩) := cell_at HZ0.out
    have f3 : w0.frozen? ⟨X, 3, none⟩ = false := free_at HZ0.out
    have x4 : w0.cell? ⟨X, 4, none⟩ = some (.int .i64 0) := cell_at HZ0.out
    have f4 : w0.frozen? ⟨X, 4, none⟩ = false := free_at HZ0.out
    go_wp2_with fail
    clear x0 x1 x2 x3 x4 f0 f1 f2 f3 f4
    generalize (((((w0.setCell ⟨X, 0, none⟩ (.string ⟨#[]⟩)).setCell ⟨X, 1, none⟩ (.int .u32 0)).setCell ⟨X, 2, none⟩ (.int .i64 0)).setCell ⟨X, 3, none⟩ (.string ⟨#[]⟩)).setCell ⟨X, 4, none⟩ (.int .i64 0)) = wf at *
    have r0 : wf.cell? ⟨X, 0, none⟩ = some (.string ⟨#[]⟩) := cell_at HR1.out
    have r1 : wf.cell? ⟨X, 1, none⟩ = some (.int .u32 0) := cell_at HR1.out
    have r2 : wf.cell? ⟨X, 2, none⟩ = some (.int .i64 0) := cell_at HR1.out
    have r3 : wf.cell? ⟨X, 3, none⟩ = some (.string ⟨#[]⟩) := cell_at HR1.out
    have r4 : wf.cell? ⟨X, 4, none⟩ = some (.int .i64 0) := cell_at HR1.out
    refine bodyPost_ret (v := .tuple #[.agg #[.string ⟨#[]⟩, .int .u32 0, .int .i64 0, .string ⟨#[]⟩, .int .i64 0], .int .i64 2]) (by simp [results, Try.results10, go_sem, r0, r1, r2, r3, r4]) rfl ?_
    have HBF := HB0.out.trans HB2.out
    exact ⟨by rw [HR2.out]; rfl, below_grown HBF rfl, by rw [HR2.out]; exact (HRM.out.below HBF).more (Nat.le_succ _)⟩
  obtain ⟨gd, hgd⟩ : ∃ gd, gd = goodA need := ⟨_, rfl⟩
  have HGD := Lib.hid (fun z => hgd ▸ good_any need z)
  cases gd
  · have HR2 := Lib.hid (HRES.out.trans (if_pos (.inr hgd.symm)))
    clear hgd
    obtain ⟨r1, rk, r3⟩ := five_cells HZ0.out (.string ⟨#[]⟩) (.int .u32 0) (.int .i64 0) (.string ⟨#[]⟩) (.int .i64 0)
    have HR1 := Lib.hid r1
    have HRK := Lib.hid rk
    have HB2 := Lib.hid (r3 w.heap.size (by rw [HXW.out]; exact Nat.le_refl _))
    clear r1 r3 rk
    have x0 : w0.cell? ⟨X, 0, none⟩ = some (.string ⟨#[]⟩) := cell_at HZ0.out
    have f0 : w0.frozen? ⟨X, 0, none⟩ = false := free_at HZ0.out
    have x1 : w0.cell? ⟨X, 1, none⟩ = some (.int .u32 0) := cell_at HZ0.out
    have f1 : w0.frozen? ⟨X, 1, none⟩ = false := free_at HZ0.out
    have x2 : w0.cell? ⟨X, 2, none⟩ = some (.int .i64 0) := cell_at HZ0.out
    have f2 : w0.frozen? ⟨X, 2, none⟩ = false := free_at HZ0.out
    have x3 : w0.cell? ⟨X, 3, none⟩ = some (.string ⟨#[]⟩) := cell_at HZ0.out
    have f3 : w0.frozen? ⟨X, 3, none⟩ = false := free_at HZ0.out
    have x4 : w0.cell? ⟨X, 4, none⟩ = some (.int .i64 0) := cell_at HZ0.out
    have f4 : w0.frozen? ⟨X, 4, none⟩ = false := free_at HZ0.out
    go_wp2_with (go_at_call 25; refine (HGD.out _).mono ?_; rintro e w' ⟨rfl, rfl⟩)
    clear x0 x1 x2 x3 x4 f0 f1 f2 f3 f4
    generalize (((((w0.setCell ⟨X, 0, none⟩ (.string ⟨#[]⟩)).setCell ⟨X, 1, none⟩ (.int .u32 0)).setCell ⟨X, 2, none⟩ (.int .i64 0)).setCell ⟨X, 3, none⟩ (.string ⟨#[]⟩)).setCell ⟨X, 4, none⟩ (.int .i64 0)) = wf at *
    have r0 : wf.cell? ⟨X, 0, none⟩ = some (.string ⟨#[]⟩) := cell_at HR1.out
    have r1 : wf.cell? ⟨X, 1, none⟩ = some (.int .u32 0) := cell_at HR1.out
    have r2 : wf.cell? ⟨X, 2, none⟩ = some (.int .i64 0) := cell_at HR1.out
    have r3 : wf.cell? ⟨X, 3, none⟩ = some (.string ⟨#[]⟩) := cell_at HR1.out
    have r4 : wf.cell? ⟨X, 4, none⟩ = some (.int .i64 0) := cell_at HR1.out
    refine bodyPost_ret (v := .tuple #[.agg #[.string ⟨#[]⟩, .int .u32 0, .int .i64 0, .string ⟨#[]⟩, .int .i64 0], .int .i64 2]) (by simp [results, Try.results10, go_sem, r0, r1, r2, r3, r4]) rfl ?_
    have HBF := HB0.out.trans HB2.out
    exact ⟨by rw [HR2.out]; rfl, below_grown HBF rfl, by rw [HR2.out]; exact (HRM.out.below HBF).more (Nat.le_succ _)⟩
  have HKN := Lib.hid (show M key = none by rcases HKN.out with h | h | h; exact h; exact absurd h hk0; rw [← hgd] at h; cases h)
  have HR2 := Lib.hid (HRES.out.trans (if_neg (by rintro (h | h); exact hk0 h; rw [← hgd] at h; cases h)))
  clear hgd
  obtain ⟨n, D, hown, hag, hn⟩ := (HRM.out.below HB0.out).owns
  have HOWN := Lib.hid hown
  have hasf : Maps.has D (.int .i64 key) = false := by rw [hag.has, HKN.out]; rfl
  have HHAS := Lib.hid hasf
  have c1 : w0.cell? ⟨b, 1, none⟩ = some (.map (some m)) := cell_at (HRM.out.below HB0.out).box
  have hzp : (zeroValue 35).run Try.prog w0 = .ok (.agg #[.string ⟨#[]⟩, .int .u32 0]) w0 := by kernel_rfl
  clear hag hn hasf hown
  go_upto_region 11 with (first
    | (go_at_call 25; refine (HGD.out _).mono ?_; rintro e w' ⟨rfl, rfl⟩)
    | (at_lookup; refine wpList_lookup_own_ok _ rfl _ _ 47 rfl 3 35 law Try.underlying47 ptElem hzp (ptDat (⟨#[]⟩, 0)) [] (ptElem_mk (⟨#[]⟩, 0)) m n D rfl HOWN.out _ (.int .i64 key) rfl (keyOf_int_mk Try.underlying3 HWF.out) ?_; intro v ps hv; rw [HHAS.out]; obtain ⟨q, rfl, -⟩ := ptElem_inv hv; clear hv)
    | go_in)
  have hz := heap_alloc_new w0 (.cells #[.string q.1, .int .u32 q.2] 35)
  have hal : Below w0.heap.size w0 (w0.alloc (.cells #[.string q.1, .int .u32 q.2] 35)) := (Below.refl _ _).alloc (Nat.le_refl _) _
  obtain ⟨P, hP⟩ : ∃ q, q = w0.heap.size := ⟨_, rfl⟩
  rw [← hP] at hz ⊢
  generalize w0.alloc (.cells #[.string q.1, .int .u32 q.2] 35) = w1 at *
  have HB1 := Lib.hid (HB0.out.trans (hal.mono HB0.out.size))
  have HZ0 := Lib.hid (stay HZ0.out hal)
  clear hz hal hP HOWN HHAS hzp c1 HB0 HGD
  go_wp2_with fail
  refine (choose_any b m script M need _ l w1 (HRM.out.below HB1.out) (HSL.out.below HB1.out)).mono ?_
  rintro e w2 ⟨rfl, hxc⟩
  have HB2 := Lib.hid (HB1.out.trans (hxc.mono HB1.out.size))
  have HZ0 := Lib.hid (stay HZ0.out hxc)
  clear hxc HB1
  cases hch : chooseL script need (takenB M) l with
  | none =>
    have HR3 := Lib.hid (HR2.out.trans (by rw [hch]))
    clear hch
    unfold pickP enC
    simp only [Option.getD_none, zEn, Option.isSome_none]
    go_upto_region 12 with fail
    have hz := heap_alloc_new w2 (.cells #[.string ⟨#[]⟩, .int .u32 0, .int .i64 0, .string ⟨#[]⟩, .int .i64 0] 41)
    have hal : Below w2.heap.size w2 (w2.alloc (.cells #[.string ⟨#[]⟩, .int .u32 0, .int .i64 0, .string ⟨#[]⟩, .int .i64 0] 41)) := (Below.refl _ _).alloc (Nat.le_refl _) _
    obtain ⟨S, hS⟩ : ∃ q, q = w2.heap.size := ⟨_, rfl⟩
    rw [← hS] at hz ⊢
    generalize w2.alloc (.cells #[.string ⟨#[]⟩, .int .u32 0, .int .i64 0, .string ⟨#[]⟩, .int .i64 0] 41) = w3 at *
    have HB2 := Lib.hid (HB2.out.trans (hal.mono HB2.out.size))
    have HZ0 := Lib.hid (stay HZ0.out hal)
    clear hz hal hS
    obtain ⟨r1, rk, r3⟩ := five_cells HZ0.out (.string ⟨#[]⟩) (.int .u32 0) (.int .i64 0) (.string ⟨#[]⟩) (.int .i64 0)
    have HR1 := Lib.hid r1
    have HRK := Lib.hid rk
    have HBX := Lib.hid (r3 w.heap.size (by rw [HXW.out]; exact Nat.le_refl _))
    clear r1 r3 rk
    have x0 : w3.cell? ⟨X, 0, none⟩ = some (.string ⟨#[]⟩) := cell_at HZ0.out
    have f0 : w3.frozen? ⟨X, 0, none⟩ = false := free_at HZ0.out
    have x1 : w3.cell? ⟨X, 1, none⟩ = some (.int .u32 0) := cell_at HZ0.out
    have f1 : w3.frozen? ⟨X, 1, none⟩ = false := free_at HZ0.out
    have x2 : w3.cell? ⟨X, 2, none⟩ = some (.int .i64 0) := cell_at HZ0.out
    have f2 : w3.frozen? ⟨X, 2, none⟩ = false := free_at HZ0.out
    have x3 : w3.cell? ⟨X, 3, none⟩ = some (.string ⟨#[]⟩) := cell_at HZ0.out
    have f3 : w3.frozen? ⟨X, 3, none⟩ = false := free_at HZ0.out
    have x4 : w3.cell? ⟨X, 4, none⟩ = some (.int .i64 0) := cell_at HZ0.out
    have f4 : w3.frozen? ⟨X, 4, none⟩ = false := free_at HZ0.out
    go_wp2_with fail
    clear x0 x1 x2 x3 x4 f0 f1 f2 f3 f4
    generalize (((((w3.setCell ⟨X, 0, none⟩ (.string ⟨#[]⟩)).setCell ⟨X, 1, none⟩ (.int .u32 0)).setCell ⟨X, 2, none⟩ (.int .i64 0)).setCell ⟨X, 3, none⟩ (.string ⟨#[]⟩)).setCell ⟨X, 4, none⟩ (.int .i64 0)) = wf at *
    have r0 : wf.cell? ⟨X, 0, none⟩ = some (.string ⟨#[]⟩) := cell_at HR1.out
    have r1 : wf.cell? ⟨X, 1, none⟩ = some (.int .u32 0) := cell_at HR1.out
    have r2 : wf.cell? ⟨X, 2, none⟩ = some (.int .i64 0) := cell_at HR1.out
    have r3 : wf.cell? ⟨X, 3, none⟩ = some (.string ⟨#[]⟩) := cell_at HR1.out
    have r4 : wf.cell? ⟨X, 4, none⟩ = some (.int .i64 0) := cell_at HR1.out
    refine bodyPost_ret (v := .tuple #[.agg #[.string ⟨#[]⟩, .int .u32 0, .int .i64 0, .string ⟨#[]⟩, .int .i64 0], .int .i64 8]) (by simp [results, Try.results10, go_sem, r0, r1, r2, r3, r4]) rfl ?_
    have HBF := HB2.out.trans HBX.out
    exact ⟨by rw [HR3.out]; rfl, below_grown HBF rfl, by rw [HR3.out]; exact (HRM.out.below HBF).more (Nat.le_succ _)⟩
  | some y =>
    have HR3 := Lib.hid (HR2.out.trans (by rw [hch]))
    clear hch
    unfold pickP enC
    simp only [Option.getD_some, Option.isSome_some]
    go_upto_region 12 with fail
    have hz := heap_alloc_new w2 (.cells #[.string y.id, .int .u32 y.idx, .int .i64 y.val, .string y.script, .int .i64 y.ht] 41)
    have hal : Below w2.heap.size w2 (w2.alloc (.cells #[.string y.id, .int .u32 y.idx, .int .i64 y.val, .string y.script, .int .i64 y.ht] 41)) := (Below.refl _ _).alloc (Nat.le_refl _) _
    obtain ⟨S, hS⟩ : ∃ q, q = w2.heap.size := ⟨_, rfl⟩
    rw [← hS] at hz ⊢
    generalize w2.alloc (.cells #[.string y.id, .int .u32 y.idx, .int .i64 y.val, .string y.script, .int .i64 y.ht] 41) = w3 at *
    have HB3 := Lib.hid (HB2.out.trans (hal.mono HB2.out.size))
    have HXS := Lib.hid (show X < S by rw [hS]; exact lt_of HZ0.out)
    have HZ0 := Lib.hid (stay HZ0.out hal)
    have HS0 := Lib.hid hz
    clear hz hal hS HB2
    go_upto_region 14 with fail
    have s0 : w3.cell? ⟨S, 0, none⟩ = some (.string y.id) := cell_at HS0.out
    have s1 : w3.cell? ⟨S, 1, none⟩ = some (.int .u32 y.idx) := cell_at HS0.out
    have c1 : w3.cell? ⟨b, 1, none⟩ = some (.map (some m)) := cell_at (HRM.out.below HB3.out).box
    refine wp_region_made (RL b m S key y.id y.idx) 7 (by kernel_rfl) (by kernel_rfl) (by kernel_rfl) (by kernel_rfl) (by decide) (by kernel_rfl) ?_ ?_
    · intro i o hi ho L xs lo hi' wr hmd hni hpre
      obtain ⟨x0, x1, x2, x3, x4, x5, x6, rfl⟩ : ∃ x0 x1 x2 x3 x4 x5 x6, xs = [x0, x1, x2, x3, x4, x5, x6] := by match xs, hmd.len with | [x0, x1, x2, x3, x4, x5, x6], _ => exact ⟨_, _, _, _, _, _, _, rfl⟩
      match i, ho with
      | 0, ho =>
        obtain rfl := Option.some.inj ho
        have kk := fun lx ox ax => @step_pure Try.prog (RL b m S key y.id y.idx) lx [x0, x1, x2, x3, x4, x5, x6] ox ax wr 0 (.pointer (some ⟨b, 0, none⟩))
        refine kk _ _ _ ?_ ?_
        · kernel_rfl
        · exact rfl
      | 1, ho =>
        obtain rfl := Option.some.inj ho
        have h_0 : x0 = .pointer (some ⟨b, 0, none⟩) := hmd.rel 0 (hpre 0 (by kernel_rfl))
        subst h_0
        have kk := fun lx ox ax => @step_pure Try.prog (RL b m S key y.id y.idx) lx [(.pointer (some ⟨b, 0, none⟩)), x1, x2, x3, x4, x5, x6] ox ax wr 1 (.pointer (some ⟨b, 0, none⟩))
        refine kk _ _ _ ?_ ?_
        · kernel_rfl
        · exact rfl
      | 2, ho =>
        obtain rfl := Option.some.inj ho
        have h_1 : x1 = .pointer (some ⟨b, 0, none⟩) := hmd.rel 1 (hpre 1 (by kernel_rfl))
        subst h_1
        have kk := fun lx ox ax => @step_pure Try.prog (RL b m S key y.id y.idx) lx [x0, (.pointer (some ⟨b, 0, none⟩)), x2, x3, x4, x5, x6] ox ax wr 2 (.pointer (some ⟨b, 1, none⟩))
        refine kk _ _ _ ?_ ?_
        · kernel_rfl
        · exact rfl
      | 3, ho =>
        obtain rfl := Option.some.inj ho
        have h_2 : x2 = .pointer (some ⟨b, 1, none⟩) := hmd.rel 2 (hpre 2 (by kernel_rfl))
        subst h_2
        have t1 := below_cells hmd.bel _ _ c1
        have kk := fun lx ox ax => @step_pure Try.prog (RL b m S key y.id y.idx) lx [x0, x1, (.pointer (some ⟨b, 1, none⟩)), x3, x4, x5, x6] ox ax wr 3 (.map (some m))
        refine kk _ _ _ ?_ ?_
        · simp [putAll, execOp, go_sem, t1]
        · exact rfl
      | 4, ho =>
        obtain rfl := Option.some.inj ho
        have kk := fun lx ox ax => @step_pure Try.prog (RL b m S key y.id y.idx) lx [x0, x1, x2, x3, x4, x5, x6] ox ax wr 4 (.int .i64 key)
        refine kk _ _ _ ?_ ?_
        · kernel_rfl
        · exact rfl
      | 5, ho =>
        obtain rfl := Option.some.inj ho
        have kk := fun lx ox ax => @step_pure Try.prog (RL b m S key y.id y.idx) lx [x0, x1, x2, x3, x4, x5, x6] ox ax wr 5 (.pointer (some ⟨S, 0, none⟩))
        refine kk _ _ _ ?_ ?_
        · kernel_rfl
        · exact rfl
      | 6, ho =>
        obtain rfl := Option.some.inj ho
        have h_5 : x5 = .pointer (some ⟨S, 0, none⟩) := hmd.rel 5 (hpre 5 (by kernel_rfl))
        subst h_5
        have t0 := below_cells hmd.bel _ _ s0
        have t1 := below_cells hmd.bel _ _ s1
        have kk := fun lx ox ax => @step_pure Try.prog (RL b m S key y.id y.idx) lx [x0, x1, x2, x3, x4, (.pointer (some ⟨S, 0, none⟩)), x6] ox ax wr 6 (.agg #[.string y.id, .int .u32 y.idx])
        refine kk _ _ _ ?_ ?_
        · simp [putAll, execOp, go_sem, t0, t1]
        · exact rfl
      | q + 7, ho => omega
    · intro xs lo hi wr hmd
      obtain ⟨x0, x1, x2, x3, x4, x5, x6, rfl⟩ : ∃ x0 x1 x2 x3 x4 x5 x6, xs = [x0, x1, x2, x3, x4, x5, x6] := by match xs, hmd.len with | [x0, x1, x2, x3, x4, x5, x6], _ => exact ⟨_, _, _, _, _, _, _, rfl⟩
      simp only [putAll]
      change wpList _ _ _ (_ :: []) _ _
      have e3 : x3 = .map (some m) := hmd.rel 3 (by decide)
      have e4 : x4 = .int .i64 key := hmd.rel 4 (by decide)
      have e6 : x6 = .agg #[.string y.id, .int .u32 y.idx] := hmd.rel 6 (by decide)
      subst e3 e4 e6
      have HB4 := Lib.hid (HB3.out.trans (hmd.bel.mono HB3.out.size))
      have HZ0 := Lib.hid (stay HZ0.out hmd.bel)
      have HS0 := Lib.hid (stay HS0.out hmd.bel)
      clear hmd s0 s1 c1
      have hrm := HRM.out.below HB4.out
      obtain ⟨n, D, hown, hag, hn⟩ := hrm.owns
      have HBX' := Lib.hid hrm.box
      have HNE := Lib.hid hrm.ne
      have HAG := Lib.hid hag
      have HOWN := Lib.hid hown
      have hmw : m < w.heap.size := by
        obtain ⟨n', D', ho, -⟩ := HRM.out.owns
        exact ho.lt
      have HMW := Lib.hid hmw
      have hn' : n < maxLen := by have := HCN.out; rw [maxLen_eq]; omega
      have HN' := Lib.hid hn'
      have HNC := Lib.hid hn
      clear hrm hown hag hn hmw hn'
      refine wpList_mapUpdate_own _ ?_ (.tmp 61) (.tmp 62) (.tmp 64) 47 ?_ 3 35 law Try.underlying47 ptElem m n D ?_ HOWN.out HN'.out (.int .i64 key) (.agg #[.string y.id, .int .u32 y.idx]) (.int .i64 key) ?_ ?_ (keyOf_int_mk Try.underlying3 HWF.out) (ptDat y.pt) [] (ptElem_mk y.pt) ?_
      · rfl
      · rfl
      · kernel_rfl
      · kernel_rfl
      · kernel_rfl
      intro w5 hown5 hg5
      have HG5 := Lib.hid (World.grownBy.trans (below_grown (row := some m) HB4.out rfl) hg5)
      have HZ0 := Lib.hid ((hg5.block X (lt_of HZ0.out) (by have := HMW.out; have := HXW.out; intro e; cases e; omega)).trans HZ0.out)
      have HS0 := Lib.hid ((hg5.block S (lt_of HS0.out) (by have := HMW.out; have := HXW.out; have := HXS.out; intro e; cases e; omega)).trans HS0.out)
      have HBX' := Lib.hid ((hg5.block b (lt_of HBX'.out) (by have := HNE.out; intro e; cases e; exact this rfl)).trans HBX'.out)
      have HOWN5 := Lib.hid hown5
      clear hown5 hg5
      have t0 : w5.cell? ⟨S, 0, none⟩ = some (.string y.id) := cell_at HS0.out
      have t1 : w5.cell? ⟨S, 1, none⟩ = some (.int .u32 y.idx) := cell_at HS0.out
      have t2 : w5.cell? ⟨S, 2, none⟩ = some (.int .i64 y.val) := cell_at HS0.out
      have t3 : w5.cell? ⟨S, 3, none⟩ = some (.string y.script) := cell_at HS0.out
      have t4 : w5.cell? ⟨S, 4, none⟩ = some (.int .i64 y.ht) := cell_at HS0.out
      obtain ⟨r1, rk, r3⟩ := five_cells HZ0.out (.string y.id) (.int .u32 y.idx) (.int .i64 y.val) (.string y.script) (.int .i64 y.ht)
      have HR1 := Lib.hid r1
      have HRK := Lib.hid rk
      have HBX := Lib.hid (r3 w.heap.size (by rw [HXW.out]; exact Nat.le_refl _))
      clear r1 r3 rk
      have x0 : w5.cell? ⟨X, 0, none⟩ = some (.string ⟨#[]⟩) := cell_at HZ0.out
      have f0 : w5.frozen? ⟨X, 0, none⟩ = false := free_at HZ0.out
      have x1 : w5.cell? ⟨X, 1, none⟩ = some (.int .u32 0) := cell_at HZ0.out
      have f1 : w5.frozen? ⟨X, 1, none⟩ = false := free_at HZ0.out
      have x2 : w5.cell? ⟨X, 2, none⟩ = some (.int .i64 0) := cell_at HZ0.out
      have f2 : w5.frozen? ⟨X, 2, none⟩ = false := free_at HZ0.out
      have x3 : w5.cell? ⟨X, 3, none⟩ = some (.string ⟨#[]⟩) := cell_at HZ0.out
      have f3 : w5.frozen? ⟨X, 3, none⟩ = false := free_at HZ0.out
      have x4 : w5.cell? ⟨X, 4, none⟩ = some (.int .i64 0) := cell_at HZ0.out
      have f4 : w5.frozen? ⟨X, 4, none⟩ = false := free_at HZ0.out
      go_wp2_with fail
      clear x0 x1 x2 x3 x4 f0 f1 f2 f3 f4
      generalize (((((w5.setCell ⟨X, 0, none⟩ (.string y.id)).setCell ⟨X, 1, none⟩ (.int .u32 y.idx)).setCell ⟨X, 2, none⟩ (.int .i64 y.val)).setCell ⟨X, 3, none⟩ (.string y.script)).setCell ⟨X, 4, none⟩ (.int .i64 y.ht)) = wf at *
      have r0 : wf.cell? ⟨X, 0, none⟩ = some (.string y.id) := cell_at HR1.out
      have r1 : wf.cell? ⟨X, 1, none⟩ = some (.int .u32 y.idx) := cell_at HR1.out
      have r2 : wf.cell? ⟨X, 2, none⟩ = some (.int .i64 y.val) := cell_at HR1.out
      have r3 : wf.cell? ⟨X, 3, none⟩ = some (.string y.script) := cell_at HR1.out
      have r4 : wf.cell? ⟨X, 4, none⟩ = some (.int .i64 y.ht) := cell_at HR1.out
      refine bodyPost_ret (v := .tuple #[.agg #[.string y.id, .int .u32 y.idx, .int .i64 y.val, .string y.script, .int .i64 y.ht], .int .i64 0]) (by simp [results, Try.results10, go_sem, r0, r1, r2, r3, r4]) rfl ?_
      have HXB : b < X := by rw [HXW.out]; exact lt_of HRM.out.box
      have hgx : w5.grownBy wf (some X) := ⟨HBX.out.os, HBX.out.tape, HBX.out.output, HBX.out.size, fun k hk hne => HRK.out k (fun e => hne (by rw [e]))⟩
      have hmx : m ≠ X := by have := HMW.out; have := HXW.out; omega
      have hgw : w.grownBy wf (some m) := ⟨HBX.out.os.trans HG5.out.os, HBX.out.tape.trans HG5.out.tape, HBX.out.output.trans HG5.out.output, Nat.le_trans HG5.out.size HBX.out.size, fun k hk hne => (HRK.out k (by have := HXW.out; omega)).trans (HG5.out.block k hk hne)⟩
      refine ⟨by rw [HR3.out]; rfl, hgw, ?_⟩
      rw [HR3.out]
      exact ⟨(HRK.out b (by omega)).trans HBX'.out, ⟨n + 1, _, HOWN5.out.kept hgx (by intro e; exact hmx (by injection e)), HAG.out.put key y.pt, by have := HNC.out; omega⟩, HNE.out⟩
theorem lease_new {cn : Nat} (b m : Nat) (script : ByteArray) (M : Int → Option Pt) (key need : Int) (sl : Value) (l : List PEn) (w : World) (hr : RsM w b m script M cn) (hcn : cn < 1000000) (hkn : M key = none) (hkey : (Lit.int .i64 key).wf = true) (hsl : SlAt rpEn w sl l) :
    Calls Try.prog 10 #[.pointer (some ⟨b, 0, none⟩), .int .i64 key, .int .i64 need, sl] w (LeaseP b m script cn (leaseE script M key need l) w) := lease_gen b m script M key need sl l w hr hcn (.inl hkn) hkey hsl
end Go.Proofs.Ytelindgnkpfkiaa
