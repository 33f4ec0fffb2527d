/-
  SHA-256: the document's Sum. Conditions: the text has no more than 2^40 bytes.
-/
import Derived.Test.YtfkcldaogfengaaSha9
import Derived.Deep.RegionHeld
import Derived.Deep.DrawnRows
namespace Go.Proofs.Ytfkcldaogfengaa
open Go.RowKit Go.BigFrame
set_option linter.unusedVariables false
set_option linter.unusedSimpArgs false

theorem op_store_arr {Pr : Program} {o : Oper} {a : Act} {w : World} {K : Act → World → Prop} {Q : Exit → Act → World → Prop} {b n : Nat} {f g : Nat → W32} (h : ArrAt w b n g) (t : TypeId) (x y : Operand)
    (ho : o.op = .store t x y) (hx : a.eval x = .pointer (some ⟨b, 0, none⟩)) (hy : a.eval y = .agg (arrV n f)) (hi : (Pr.info? t).map (·.size) = some n)
    (hK : K (a.put o.dst undef) (w.setRow b (arrV n f))) : o.wp Pr a w K Q := by
  obtain ⟨e, he⟩ := h.heap
  unfold Oper.wp
  have hr : (execOp a.eval o).run Pr w = .ok .skip (w.setRow b (arrV n f)) := by
    simp only [execOp, ho, hx, hy, Instr.storeAt, Instr.sureAddr, Sem.run_bind, Sem.run_pure, Result.andThen, run_storeVar_row w b e t (arrV n g) (arrV n f) he (by rw [arrV_size]; exact hi) (by rw [arrV_size, arrV_size]) (arrV_one n f)]
  rw [hr]
  exact hK

/-- The first so many words' bytes. -/
def outL (f : Nat → W32) : Nat → List UInt8
  | 0 => []
  | n + 1 => outL f n ++ beL (f n).toNat 4
theorem outL_len (f : Nat → W32) (n : Nat) : (outL f n).length = 4 * n := by
  induction n with
  | zero => rfl
  | succ n ih => simp [outL, ih, beL_len]; omega
theorem outL_st (h : St) : outL h.fn 8 = stL h := by
  simp only [outL, stL, List.nil_append, St.fn]
theorem four_bytes (x : W32) (w : World) : (convert 52 9 (.slice (some ⟨w.heap.size, 0, none⟩) 4 4)).run Try.prog (w.alloc (.cells #[.int .u8 (IntKind.u8.wrap (nv x / 16777216)), .int .u8 (IntKind.u8.wrap (nv x / 65536)), .int .u8 (IntKind.u8.wrap (nv x / 256)), .int .u8 (IntKind.u8.wrap (nv x))] 5)).drew =
    .ok (.string ⟨(beL x.toNat 4).toArray⟩) (w.alloc (.cells #[.int .u8 (IntKind.u8.wrap (nv x / 16777216)), .int .u8 (IntKind.u8.wrap (nv x / 65536)), .int .u8 (IntKind.u8.wrap (nv x / 256)), .int .u8 (IntKind.u8.wrap (nv x))] 5)).drew := by
  simp only [IntKind.wrap_u8]
  have h : (w.alloc (.cells #[.int .u8 (nv x / 16777216 % 256), .int .u8 (nv x / 65536 % 256), .int .u8 (nv x / 256 % 256), .int .u8 (nv x % 256)] 5)).ownsRow 0 5 1 (.slice (some ⟨w.heap.size, 0, none⟩) 4 4) 4 (bytesOf (beL x.toNat 4)) := by
    refine ⟨rfl, .inr ⟨w.heap.size, 4, _, rfl, Nat.zero_le _, heap_alloc_new w _, Nat.le_refl _, by rw [maxLen_eq]; omega, rfl, ?_⟩⟩
    simp [bytesOf, beL, nv]
  exact convert_bytes h.drew

structure RS (w : World) (bb n : Nat) (P : List UInt8) (f : Nat → W32) (wr : World) : Prop where
  bel : Below w.heap.size w wr
  row : ArrAt wr w.heap.size 8 f
  by_ : ∀ j, j < n → wr.cell? ⟨bb, j, none⟩ = some (.int .u8 (nv (byL P j)))
  far : w.heap.size < bb
theorem RS.next {w wr w' : World} {bb n : Nat} {P : List UInt8} {f : Nat → W32} (h : RS w bb n P f wr) (hb : Below wr.heap.size wr w') : RS w bb n P f w' :=
  ⟨h.bel.trans (hb.mono h.bel.size), h.row.next hb h.row.lt, fun j hj => below_cells hb _ _ (h.by_ j hj), h.far⟩
theorem RS.put {w wr : World} {bb n : Nat} {P : List UInt8} {f : Nat → W32} (h : RS w bb n P f wr) (g : Nat → W32) : RS w bb n P g (wr.setRow w.heap.size (arrV 8 g)) := by
  refine ⟨below_row h.bel (Nat.le_refl _) _, h.row.row, fun j hj => ?_, h.far⟩
  have hj' := h.by_ j hj
  have hf := h.far
  simp only [World.cell?] at hj' ⊢
  rw [setRow_other wr w.heap.size bb _ (by omega)]
  exact hj'

def SumIs (s : ByteArray) (w : World) (e : Ending) (w' : World) : Prop := e = .returned (.string ⟨(sumL s.data.toList).toArray⟩) ∧ Below w.heap.size w w'

attribute [-go_sem] loadCellsFrom
set_option maxRecDepth 100000 in
set_option maxHeartbeats 4000000 in
theorem rsum_any (s : ByteArray) (hs : s.size ≤ 1099511627776) (w : World) : Calls Try.prog 66 #[.string s] w (SumIs s w) := by
  obtain ⟨P, hP⟩ : ∃ P, P = padL s.data.toList := ⟨_, rfl⟩
  obtain ⟨m, hm⟩ : ∃ m, m = P.length / 64 := ⟨_, rfl⟩
  have hpl := padL_len s.data.toList
  have hbk := padL_blocks s.data.toList
  rw [← hP] at hpl hbk
  rw [← hm] at hbk
  have hz := zerosOf_le s.data.toList.length
  have hsl : s.data.toList.length = s.size := by simp
  have hmb : 64 * m ≤ 1099511627776 + 100 := by omega
  have hm0 : 0 < m := hbk.2
  have hplen : P.length = 64 * m := hbk.1
  have HP := Lib.hid hP
  have HM := Lib.hid hm
  have HPL := Lib.hid hplen
  clear hpl hbk hz hP hm hplen hsl
  go_enter Try.func66, Try.ntmps66
  go_upto_region 1 with fail
  refine wp_region_lit ?_
  refine wpList_run (w' := w) (v := .agg (arrV 8 hSt.fn)) rfl (by kernel_rfl) ?_
  refine wpList_run (w' := w.alloc (.cells (arrV 8 (fun _ => 0)) 117)) (v := .pointer (some ⟨w.heap.size, 0, none⟩)) rfl (by rw [rep_arr]; kernel_rfl) ?_
  refine wpList_store_arr (f := hSt.fn) (arrAt_new w 8 _ 117) rfl 117 (.tmp 3) (.tmp 8) rfl rfl rfl (by kernel_rfl) ?_
  have hrow := (arrAt_new w 8 (fun _ => 0) 117).row (f := hSt.fn)
  have hbel := below_row ((Below.refl w.heap.size w).alloc (Nat.le_refl _) (.cells (arrV 8 (fun _ => 0)) 117)) (Nat.le_refl _) (arrV 8 hSt.fn)
  have hsz : w.heap.size < ((w.alloc (.cells (arrV 8 (fun _ => 0)) 117)).setRow w.heap.size (arrV 8 hSt.fn)).heap.size := hrow.lt
  generalize (w.alloc (.cells (arrV 8 (fun _ => 0)) 117)).setRow w.heap.size (arrV 8 hSt.fn) = wz at *
  have HR := Lib.hid hrow
  have HB := Lib.hid hbel
  clear hrow hbel
  go_wp2_with fail
  refine (pad_any s hs wz).mono ?_
  rintro e w1 ⟨v, rfl, hb1, hown⟩
  rw [← HP.out] at hown
  have hpos : 0 < P.length := by rw [HPL.out]; omega
  obtain ⟨a, c, rfl, hc1, hc2⟩ := ownsRow_shape hown
  obtain ⟨bb, rfl, hbb1, hbb2⟩ := ownsRow_some hown hpos
  have hrs : RS w bb (64 * m) P (blks P 0).fn w1 := by
    refine ⟨HB.out.trans (hb1.mono HB.out.size), HR.out.next hb1 HR.out.lt, fun j hj => ?_, by omega⟩
    have hjl : j < P.length := by rw [HPL.out]; exact hj
    have := hown.cells (g := bb) rfl j (.int .u8 (P[j].toNat)) (by simp [bytesOf, hjl])
    rw [Addr.add_lit, Nat.zero_add] at this
    rw [this]
    congr 2
    unfold nv byL
    rw [List.getD_eq_getElem?_getD, List.getElem?_eq_getElem hjl, Option.getD_some, BitVec.toNat_ofNat]
    have := P[j].toNat_lt
    rw [Nat.mod_eq_of_lt (by omega)]
  rw [HPL.out] at hc1 ⊢
  rw [maxLen_eq] at hc2
  have HRS := Lib.hid hrs
  clear hrs hown hb1 HR HB hpos hbb1 hbb2 hsz
  go_wp2_with fail
  go_loopg [5] m (fun g i wr => ∃ k : Nat, g = m - k ∧ k ≤ m ∧ i = .int .i64 ((64 * k : Nat) : Int) ∧ RS w bb (64 * m) P (blks P k).fn wr)
  case atStart => exact ⟨0, rfl, by omega, rfl, HRS.out⟩
  case round =>
    clear HRS
    rename World => wa
    obtain ⟨k, hgk, hk, rfl, hsw⟩ := hrel
    have HGK := Lib.hid hgk
    have HSW := Lib.hid hsw
    clear hgk hsw
    by_cases hlt : k < m
    · have hnext : blks P (k + 1) = blk (msgL P (64 * k)) (blks P k) := rfl
      have HNX := Lib.hid hnext
      clear hnext
      obtain ⟨x, hx⟩ : ∃ x, x = blks P k := ⟨_, rfl⟩
      rw [← hx] at HNX HSW
      clear hx
      obtain ⟨C, hC⟩ : ∃ C : World → Prop, C = fun w' => Below wa.heap.size wa w' := ⟨_, rfl⟩
      have hk0 : ∀ y : Kin C, (loadCellsFrom ⟨w.heap.size, 0, none⟩ 0 8 #[]).run Try.prog y.w = .ok (arrV 8 x.fn) y.w := by
        intro ⟨y, h⟩; subst hC; exact (HSW.out.next h).row.load
      have hqb : ∀ y : Kin C, Calls Try.prog 81 #[.agg (arrV 8 x.fn), .slice (some ⟨bb, 64 * k, none⟩) 64 (c - 64 * k)] y.w fun e w' => e = .returned (.agg (arrV 8 (blk (msgL P (64 * k)) x).fn)) ∧ C w' := by
        intro y
        refine (block_any P (64 * k) x bb (64 * k) (c - 64 * k) (by omega) y.w ?_).mono ?_
        · intro i hi
          obtain ⟨y, h⟩ := y
          subst hC
          exact (HSW.out.next h).by_ (64 * k + i) (by omega)
        · rintro e w' ⟨rfl, hb⟩
          obtain ⟨y, h⟩ := y
          subst hC
          exact ⟨by rw [St.val_arr], h.trans (hb.mono h.size)⟩
      have HQB := Lib.hid hqb
      have HC := Lib.hid hC
      clear hC hqb
      have hik : 64 * k + 64 ≤ 64 * m := by omega
      go_wp2_with fail
      refine wp_region_last_kin C 7 _ rfl rfl (by kernel_rfl) (by kernel_rfl) (by kernel_rfl) (by kernel_rfl) (by kernel_rfl) (by kernel_rfl) (by rw [HC.out]; exact ⟨rfl, rfl, rfl, Nat.le_refl _, fun _ _ => rfl⟩) ?_
      intro hne
      dsimp only [List.set, struck]
      repeat (first | (go_big_quiet_step (first | (rename_i y; go_at_call 81; exact Calls.kin (HQB.out y) (fun w' h => h)))) | (quiet_step (first | (rename_i y; go_at_call 81; exact Calls.kin (HQB.out y) (fun w' h => h)))))
      refine wpQuiet_nil ?_
      intro _ hw'
      obtain ⟨kx, hw''⟩ := hw'
      subst hw''
      obtain ⟨wx, hxc⟩ := kx
      rw [HC.out] at hxc
      have hsx := HSW.out.next hxc
      have HSX := Lib.hid hsx
      clear hsx hxc hk0
      refine op_store_arr (f := (blk (msgL P (64 * k)) x).fn) HSX.out.row 117 (.tmp 3) (.tmp 23) rfl rfl rfl (by kernel_rfl) ?_
      have hput := HSX.out.put (blk (msgL P (64 * k)) x).fn
      rw [← HNX.out] at hput ⊢
      have HPUT := Lib.hid hput
      clear hput HSX
      generalize wx.setRow w.heap.size (arrV 8 (blks P (k + 1)).fn) = wy at *
      go_wp2_with fail
      go_roundg (m - (k + 1))
      case measure => have := HGK.out; omega
      case rel => exact ⟨k + 1, rfl, by omega, by go_num, HPUT.out⟩
    · obtain rfl : k = m := by omega
      obtain ⟨f, hf⟩ : ∃ f, f = (blks P k).fn := ⟨_, rfl⟩
      have hfin : ∀ wr, Below w.heap.size w wr → SumIs s w (.returned (.string ⟨(outL f 8).toArray⟩)) wr := by
        intro wr hb
        refine ⟨?_, hb⟩
        rw [hf, outL_st]
        unfold sumL
        rw [← HP.out, ← HM.out]
      have HFIN := Lib.hid hfin
      rw [← hf] at HSW
      clear hf hfin HPL HP HM HGK hlt hk hc1 hmb hm0
      go_wp2_with fail
      go_loopg [6, 7] 8 (fun g v i wr => ∃ n : Nat, g = 8 - n ∧ n ≤ 8 ∧ i = .int .i64 (n : Int) ∧ v = .string ⟨(outL f n).toArray⟩ ∧ Below w.heap.size w wr ∧ ArrAt wr w.heap.size 8 f)
      case atStart => exact ⟨0, rfl, by omega, rfl, rfl, HSW.out.bel, HSW.out.row⟩
      case round =>
        clear HSW
        rename World => wb
        obtain ⟨n, hgn, hn, rfl, rfl, hbel, hrow⟩ := hrel
        have HGN := Lib.hid hgn
        have HBEL := Lib.hid hbel
        have HROW := Lib.hid hrow
        clear hgn hbel hrow
        by_cases hlt : n < 8
        · have x0 : wb.cell? ⟨w.heap.size, n, none⟩ = some (.int .u32 (nv (f n))) := HROW.out.cell hlt
          have h4 := fun w => four_bytes (f n) w
          have hl1 := outL_len f n
          have hl2 := beL_len (f n).toNat 4
          have hi0 : (0 : Int) ≤ (n : Int) := by omega
          have hi8 : (n : Int) < 8 := by omega
          go_wp2_with fail
          go_region_held (fun w' => w'.cell? ⟨w.heap.size, n, none⟩ = some (.int .u32 (nv (f n)))) (go_keep) (fail)
          have hb5 : ∀ o, Below wb.heap.size wb (wb.alloc o).drew := fun o => ((Below.refl _ _).alloc (Nat.le_refl _) o).trans ⟨rfl, rfl, rfl, Nat.le_refl _, fun _ _ => rfl⟩
          generalize hwy : (wb.alloc _).drew = wy at *
          have HB5 := Lib.hid (hwy ▸ hb5 _)
          clear hwy hb5 h4 hl1 hl2 x0 hi0 hi8
          rw [mk_mk]
          go_wp2_with fail
          go_roundg (8 - (n + 1))
          case measure => have := HGN.out; omega
          case rel => exact ⟨n + 1, rfl, by omega, by go_num, rfl, HBEL.out.trans (HB5.out.mono HBEL.out.size), HROW.out.next HB5.out HROW.out.lt⟩
        · obtain rfl : n = 8 := by omega
          go_wp2_with fail
          go_ret
          exact HFIN.out _ HBEL.out
end Go.Proofs.Ytfkcldaogfengaa
