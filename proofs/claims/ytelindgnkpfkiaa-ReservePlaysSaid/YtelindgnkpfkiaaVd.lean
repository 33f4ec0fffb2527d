/-
  Reserves: which coin is better, which one is chosen. Conditions: the reserve lies in memory.
-/
import Derived.Test.YtelindgnkpfkiaaVc
import Derived.BigQuiet
import Derived.Deep.QuietTactic
namespace Go.Proofs.Ytelindgnkpfkiaa
open Go.RowKit Go.BigFrame Go.Maps
set_option linter.unusedVariables false
set_option linter.unusedSimpArgs false

def enC (x : PEn) : Array Value := #[.string x.id, .int .u32 x.idx, .int .i64 x.val, .string x.script, .int .i64 x.ht]
set_option maxRecDepth 100000 in
set_option maxHeartbeats 2000000 in
theorem better_any (x y : PEn) (w : World) : Calls Try.prog 42 #[.agg (enC x), .agg (enC y)] w (BIs (betterB x y) w) := by
  unfold enC
  obtain ⟨r, hr⟩ : ∃ r, r = betterB x y := ⟨_, rfl⟩
  rw [← hr]
  unfold betterB at hr
  have HL := Lib.hid (fun z => less_any x.pt y.pt z)
  unfold PEn.pt at HL hr
  dsimp only at HL
  have HR := Lib.hid hr
  clear hr
  go_enter Try.func42, Try.ntmps42
  go_upto_region 1 with fail
  obtain ⟨X, hX⟩ : ∃ q, q = w.heap.size := ⟨_, rfl⟩
  have hnews := new2 w X hX (.cells #[.string x.id, .int .u32 x.idx, .int .i64 x.val, .string x.script, .int .i64 x.ht] 41) (.cells #[.string y.id, .int .u32 y.idx, .int .i64 y.val, .string y.script, .int .i64 y.ht] 41)
  rw [← hX]
  generalize ((w.alloc (.cells #[.string x.id, .int .u32 x.idx, .int .i64 x.val, .string x.script, .int .i64 x.ht] 41)).alloc (.cells #[.string y.id, .int .u32 y.idx, .int .i64 y.val, .string y.script, .int .i64 y.ht] 41)) = w0 at *
  obtain ⟨hz0, hz1, hal⟩ := hnews
  have HB0 := Lib.hid hal
  have x0 : w0.cell? ⟨X, 0, none⟩ = some (.string x.id) := cell_at hz0
  have x1 : w0.cell? ⟨X, 1, none⟩ = some (.int .u32 x.idx) := cell_at hz0
  have x2 : w0.cell? ⟨X, 2, none⟩ = some (.int .i64 x.val) := cell_at hz0
  have y0 : w0.cell? ⟨X + 1, 0, none⟩ = some (.string y.id) := cell_at hz1
  have y1 : w0.cell? ⟨X + 1, 1, none⟩ = some (.int .u32 y.idx) := cell_at hz1
  have y2 : w0.cell? ⟨X + 1, 2, none⟩ = some (.int .i64 y.val) := cell_at hz1
  clear hz0 hz1 hal hX
  by_cases he : x.val = y.val
  · have HR2 := Lib.hid (HR.out.trans (if_pos he))
    go_wp2_with fail
    refine (HL.out w0).mono ?_
    rintro e w1 ⟨rfl, hb⟩
    have HB1 := Lib.hid (HB0.out.trans (hb.mono HB0.out.size))
    clear hb
    go_wp2_with fail
    go_ret
    exact ⟨by rw [HR2.out]; rfl, HB1.out⟩
  · have HR2 := Lib.hid (HR.out.trans (if_neg he))
    have hne : (x.val == y.val) = false := by simpa using he
    go_wp2_with fail
    go_ret
    exact ⟨ret_bool (by rw [HR2.out]), HB0.out⟩

/-- A reserve stays while what is new is made. -/
theorem RsM.below {cn : Nat} {w w' : World} {b m : Nat} {script : ByteArray} {M : Int → Option Pt} (h : RsM w b m script M cn) (hb : Below w.heap.size w w') : RsM w' b m script M cn := by
  obtain ⟨n, D, h1, h2, h3⟩ := h.owns
  exact ⟨stay h.box hb, ⟨n, D, h1.kept (row := none) ⟨hb.os, hb.tape, hb.output, hb.size, fun k hk _ => hb.block k hk⟩ (by simp), h2, h3⟩, h.ne⟩
end Go.Proofs.Ytelindgnkpfkiaa
