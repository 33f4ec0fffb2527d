/-
  Reserves: a lease is released. Conditions: the reserve lies in memory.
-/
import Derived.Test.YtelindgnkpfkiaaVf
namespace Go.Proofs.Ytelindgnkpfkiaa
open Go.RowKit Go.BigFrame Go.Maps
set_option linter.unusedVariables false
set_option linter.unusedSimpArgs false

theorem RsM.grownOther {w w' : World} {b m : Nat} {script : ByteArray} {M : Int → Option Pt} {cn : Nat} (h : RsM w b m script M cn) {row : Option Nat} (hg : w.grownBy w' row) (h1 : some b ≠ row) (h2 : some m ≠ row) : RsM w' b m script M cn := by
  obtain ⟨n, D, e1, e2, e3⟩ := h.owns
  exact ⟨(hg.block b (lt_of h.box) h1).trans h.box, ⟨n, D, e1.kept hg h2, e2, e3⟩, h.ne⟩
def relE (M : Int → Option Pt) (key : Int) : Int × (Int → Option Pt) := match M key with | none => (8, M) | some _ => (0, putM M key none)
def RelP (b m : Nat) (script : ByteArray) (cn : Nat) (r : Int × (Int → Option Pt)) (w : World) (e : Ending) (w' : World) : Prop :=
  e = .returned (.int .i64 r.1) ∧ w.grownBy w' (some m) ∧ RsM w' b m script r.2 cn
set_option maxRecDepth 100000 in
set_option maxHeartbeats 4000000 in
theorem release_any {cn : Nat} (b m : Nat) (script : ByteArray) (M : Int → Option Pt) (key : Int) (w : World) (hr : RsM w b m script M cn) (hkey : (Lit.int .i64 key).wf = true) :
    Calls Try.prog 11 #[.pointer (some ⟨b, 0, none⟩), .int .i64 key] w (RelP b m script cn (relE M key) w) := by
  obtain ⟨R, hR⟩ : ∃ R, R = relE M key := ⟨_, rfl⟩
  rw [← hR]
  unfold relE at hR
  have HRES := Lib.hid hR
  clear hR
  have HRM := Lib.hid hr
  have HWF := Lib.hid hkey
  obtain ⟨n, D, hown, hag, hn⟩ := hr.owns
  have hasf : Maps.has D (.int .i64 key) = (M key).isSome := hag.has key
  have HOWN := Lib.hid hown
  have HAG := Lib.hid hag
  have HN := Lib.hid hn
  have c1 : w.cell? ⟨b, 1, none⟩ = some (.map (some m)) := cell_at hr.box
  have hzp : (zeroValue 35).run Try.prog w = .ok (.agg #[.string ⟨#[]⟩, .int .u32 0]) w := by kernel_rfl
  clear hr hkey hown hag hn
  go_enter Try.func11, Try.ntmps11
  cases hM : M key with
  | none =>
    have HR2 := Lib.hid (HRES.out.trans (by rw [hM]))
    rw [hM] at hasf
    have HHAS := Lib.hid hasf
    clear hM hasf
    go_upto_region 4 with (first
      | (at_lookup; refine wpList_lookup_own_ok _ rfl _ _ 47 rfl 3 35 law Try.underlying47 ptElem hzp (ptDat (⟨#[]⟩, 0)) [] (ptElem_mk (⟨#[]⟩, 0)) m n D rfl HOWN.out _ (.int .i64 key) rfl (keyOf_int_mk Try.underlying3 HWF.out) ?_; intro v ps hv; rw [HHAS.out]; obtain ⟨q, rfl, -⟩ := ptElem_inv hv; clear hv)
      | go_in)
    have hz := heap_alloc_new w (.cells #[.string q.1, .int .u32 q.2] 35)
    have hal : Below w.heap.size w (w.alloc (.cells #[.string q.1, .int .u32 q.2] 35)) := (Below.refl _ _).alloc (Nat.le_refl _) _
    obtain ⟨P, hP⟩ : ∃ q, q = w.heap.size := ⟨_, rfl⟩
    rw [← hP] at hz ⊢
    generalize w.alloc (.cells #[.string q.1, .int .u32 q.2] 35) = w1 at *
    have HB1 := Lib.hid hal
    clear hz hal hP HOWN HHAS hzp c1
    go_wp2_with fail
    go_ret
    exact ⟨by rw [HR2.out]; rfl, below_grown HB1.out rfl, by rw [HR2.out]; exact HRM.out.below HB1.out⟩
  | some pt =>
    have HR2 := Lib.hid (HRES.out.trans (by rw [hM]))
    rw [hM] at hasf
    have HHAS := Lib.hid hasf
    clear hM hasf
    go_upto_region 4 with (first
      | (at_lookup; refine wpList_lookup_own_ok _ rfl _ _ 47 rfl 3 35 law Try.underlying47 ptElem hzp (ptDat (⟨#[]⟩, 0)) [] (ptElem_mk (⟨#[]⟩, 0)) m n D rfl HOWN.out _ (.int .i64 key) rfl (keyOf_int_mk Try.underlying3 HWF.out) ?_; intro v ps hv; rw [HHAS.out]; obtain ⟨q, rfl, -⟩ := ptElem_inv hv; clear hv)
      | go_in)
    have HOWN1 := Lib.hid (HOWN.out.alloc (.cells #[.string q.1, .int .u32 q.2] 35))
    have hz := heap_alloc_new w (.cells #[.string q.1, .int .u32 q.2] 35)
    have hal : Below w.heap.size w (w.alloc (.cells #[.string q.1, .int .u32 q.2] 35)) := (Below.refl _ _).alloc (Nat.le_refl _) _
    obtain ⟨P, hP⟩ : ∃ q, q = w.heap.size := ⟨_, rfl⟩
    rw [← hP] at hz ⊢
    generalize w.alloc (.cells #[.string q.1, .int .u32 q.2] 35) = w1 at *
    have HB1 := Lib.hid hal
    replace c1 := below_cells hal _ _ c1
    clear hz hal hP HOWN HHAS hzp
    go_wp2_with (first
      | (at_delete; refine wpList_delete_own _ rfl _ _ 47 3 rfl 35 law Try.underlying47 ptElem m n D rfl HOWN1.out _ (.int .i64 key) rfl (keyOf_int_mk Try.underlying3 HWF.out) ?_; intro w2 hown2 hturn2; have HT := Lib.hid hturn2.grown; have HO2 := Lib.hid hown2; clear hown2 hturn2 c1)
      | go_in)
    go_ret
    have hne := HRM.out.ne
    have hrm1 := HRM.out.below HB1.out
    exact ⟨by rw [HR2.out]; rfl, World.grownBy.trans (below_grown HB1.out rfl) HT.out, by rw [HR2.out]; exact ⟨(HT.out.block b (lt_of hrm1.box) (by intro e; exact hne (by injection e))).trans hrm1.box, ⟨n, _, HO2.out, HAG.out.del key, HN.out⟩, hne⟩⟩
end Go.Proofs.Ytelindgnkpfkiaa
