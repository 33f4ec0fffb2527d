/-
  SHA-256: the constants. Conditions: none beyond each theorem's own.
-/
import Derived.Test.YtfkcldaogfengaaSha4
namespace Go.Proofs.Ytfkcldaogfengaa
open Go.RowKit Go.BigFrame
set_option linter.unusedVariables false
set_option linter.unusedSimpArgs false

def kList : List Nat := [1116352408, 1899447441, 3049323471, 3921009573, 961987163, 1508970993, 2453635748, 2870763221, 3624381080, 310598401, 607225278, 1426881987, 1925078388, 2162078206, 2614888103, 3248222580, 3835390401, 4022224774, 264347078, 604807628, 770255983, 1249150122, 1555081692, 1996064986, 2554220882, 2821834349, 2952996808, 3210313671, 3336571891, 3584528711, 113926993, 338241895, 666307205, 773529912, 1294757372, 1396182291, 1695183700, 1986661051, 2177026350, 2456956037, 2730485921, 2820302411, 3259730800, 3345764771, 3516065817, 3600352804, 4094571909, 275423344, 430227734, 506948616, 659060556, 883997877, 958139571, 1322822218, 1537002063, 1747873779, 1955562222, 2024104815, 2227730452, 2361852424, 2428436474, 2756734187, 3204031479, 3329325298]
def kF (i : Nat) : W32 := BitVec.ofNat 32 (kList.getD i 0)
def hSt : St := ⟨1779033703, 3144134277, 1013904242, 2773480762, 1359893119, 2600822924, 528734635, 1541459225⟩
theorem keys_val : (Value.agg (arrV 64 kF)) = .agg #[.int .u32 1116352408, .int .u32 1899447441, .int .u32 3049323471, .int .u32 3921009573, .int .u32 961987163, .int .u32 1508970993, .int .u32 2453635748, .int .u32 2870763221, .int .u32 3624381080, .int .u32 310598401, .int .u32 607225278, .int .u32 1426881987, .int .u32 1925078388, .int .u32 2162078206, .int .u32 2614888103, .int .u32 3248222580, .int .u32 3835390401, .int .u32 4022224774, .int .u32 264347078, .int .u32 604807628, .int .u32 770255983, .int .u32 1249150122, .int .u32 1555081692, .int .u32 1996064986, .int .u32 2554220882, .int .u32 2821834349, .int .u32 2952996808, .int .u32 3210313671, .int .u32 3336571891, .int .u32 3584528711, .int .u32 113926993, .int .u32 338241895, .int .u32 666307205, .int .u32 773529912, .int .u32 1294757372, .int .u32 1396182291, .int .u32 1695183700, .int .u32 1986661051, .int .u32 2177026350, .int .u32 2456956037, .int .u32 2730485921, .int .u32 2820302411, .int .u32 3259730800, .int .u32 3345764771, .int .u32 3516065817, .int .u32 3600352804, .int .u32 4094571909, .int .u32 275423344, .int .u32 430227734, .int .u32 506948616, .int .u32 659060556, .int .u32 883997877, .int .u32 958139571, .int .u32 1322822218, .int .u32 1537002063, .int .u32 1747873779, .int .u32 1955562222, .int .u32 2024104815, .int .u32 2227730452, .int .u32 2361852424, .int .u32 2428436474, .int .u32 2756734187, .int .u32 3204031479, .int .u32 3329325298] := by kernel_rfl
theorem begin_val : hSt.val = .agg #[.int .u32 1779033703, .int .u32 3144134277, .int .u32 1013904242, .int .u32 2773480762, .int .u32 1359893119, .int .u32 2600822924, .int .u32 528734635, .int .u32 1541459225] := by kernel_rfl

attribute [-go_sem] loadCellsFrom
theorem info_arr : (Try.prog.info? 126).map (·.size) = some 64 := by kernel_rfl
set_option maxRecDepth 100000 in
set_option maxHeartbeats 2000000 in
theorem rk_any (w : World) : Calls Try.prog 88 #[] w fun e w' => e = .returned (.agg (arrV 64 kF)) ∧ Below w.heap.size w w' := by
  go_enter Try.func88, Try.ntmps88
  go_upto_region 1 with fail
  refine gen_world (fun w0 => Below w.heap.size w w0 ∧ ArrAt w0 w.heap.size 64 (fun _ => 0)) ⟨(Below.refl _ _).alloc (Nat.le_refl _) _, arr_rep (e := 126) (heap_alloc_new w _)⟩ ?_
  intro w0 ⟨hb, ha⟩
  have HB := Lib.hid hb
  have HA := Lib.hid ha
  clear hb ha
  refine wp_region_lit ?_
  refine wpList_run (w' := w0) (v := .agg (arrV 64 kF)) rfl (by kernel_rfl) ?_
  refine wpList_store_arr (f := kF) HA.out rfl 126 (.tmp 0) (.tmp 1) rfl rfl rfl (by kernel_rfl) ?_
  have hrow := HA.out.row (f := kF)
  have hbel : Below w.heap.size w (w0.setRow w.heap.size (arrV 64 kF)) := ⟨HB.out.os, HB.out.tape, HB.out.output, by have := HB.out.size; simpa [World.setRow] using this, fun k hk => (setRow_other w0 w.heap.size k _ (by omega)).trans (HB.out.block k hk)⟩
  generalize w0.setRow w.heap.size (arrV 64 kF) = wz at *
  have hl := hrow.load (P := Try.prog)
  have HB2 := Lib.hid hbel
  clear hbel hrow HA HB
  go_wp2
  exact bodyPost_ret (v := .agg (arrV 64 kF)) (by simp [results, Try.results88, go_sem, hl]) rfl ⟨rfl, HB2.out⟩
end Go.Proofs.Ytfkcldaogfengaa
