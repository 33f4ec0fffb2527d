/-
  LockSigns: the walk. Conditions: none.
-/
import Derived.Test.YtiicigpndagecaaLockO
namespace Go.Proofs.Ytiicigpndagecaa
open Go.RowKit Go.ChangeShapes Go.WideShapes
set_option linter.unusedVariables false
set_option linter.unusedSimpArgs false

def BrAt (v : Value) (x : PBr) : Prop := v = .agg #[.int .u16 x.tag, .int .u16 x.delay, .int .u32 x.height] ∧ x.Ok

theorem open_br {H : Type} {enc : TypeId × Value → H} {w : World} {v : Value} {d : DataW H} {ps : List MemPlace} (hv : Value.okWide Try.prog w .any 0 51 v) (h : DataW.Trod enc Try.prog w 0 (fun _ => true) true 51 v d ps) :
    ∃ x : PBr, BrAt v x := by
  obtain ⟨cs, rfl, -⟩ := Go.WideShapes.okWide_struct Try.underlying51 hv
  obtain ⟨fuel, hf⟩ := h
  obtain ⟨x, hx, ho⟩ := rp_of_br hf
  refine ⟨x, ?_, ho⟩
  simp [Value.cells] at hx
  rw [← hx]

theorem open_strs {H : Type} {enc : TypeId × Value → H} {w : World} {v : Value} {d : DataW H} {ps : List MemPlace} (hv : Value.okWide Try.prog w .any 0 47 v) (h : DataW.Trod enc Try.prog w 0 (fun _ => true) true 47 v d ps) :
    ∃ l : List ByteArray, SlAt rpStr w v l := by
  obtain ⟨a, l, c, rfl⟩ := Go.WideShapes.okWide_slice Try.underlying47 hv
  obtain ⟨fuel, hf⟩ := h
  obtain ⟨xs, v', hv', hs⟩ := rp_of_slice (R := rpStr) Try.underlying47 (by kernel_rfl) (by decide) (fun _ _ _ => rp_of_str Try.underlying9) hf
  simp [Value.cells] at hv'
  subst hv'
  exact ⟨xs, hs⟩

theorem signedOf_signW {n t : Nat} (hn : n < 3) (ht : t < 65536) : signedOf [signW n t] = some (n, t) := by
  have e : (signW n t).data.toList = [UInt8.ofNat n, UInt8.ofNat t, UInt8.ofNat (t / 256)] := by simp [signW, leB]
  rw [signedOf_three e]
  have h1 : (UInt8.ofNat n).toNat = n := by simp; omega
  have h2 : (UInt8.ofNat t).toNat + 256 * (UInt8.ofNat (t / 256)).toNat = t := by simp; omega
  rw [h1, h2, if_pos hn]

theorem sl_strnil {w : World} : SlAt rpStr w (.slice none 0 0) [] := ⟨none, 0, rfl, Nat.le_refl _, by simp, fun i x hi => by simp at hi⟩

/-- What lies in the two blocks of the call's own. -/
def SgAt (w : World) (tg dl hg : Nat) (n0 n1 : Int) (wr : World) : Prop := Below w.heap.size w wr ∧
  wr.cell? ⟨w.heap.size, 0, none⟩ = some (.int .u16 tg) ∧ wr.cell? ⟨w.heap.size, 1, none⟩ = some (.int .u16 dl) ∧ wr.cell? ⟨w.heap.size, 2, none⟩ = some (.int .u32 hg) ∧
  wr.cell? ⟨w.heap.size + 1, 0, none⟩ = some (.int .i64 n0) ∧ wr.cell? ⟨w.heap.size + 1, 1, none⟩ = some (.int .i64 n1)
theorem SgAt.next {w : World} {tg dl hg : Nat} {n0 n1 : Int} {wr w' : World} (h : SgAt w tg dl hg n0 n1 wr) (hb : Below wr.heap.size wr w') : SgAt w tg dl hg n0 n1 w' :=
  ⟨h.1.trans (hb.mono h.1.size), below_cells hb _ _ h.2.1, below_cells hb _ _ h.2.2.1, below_cells hb _ _ h.2.2.2.1, below_cells hb _ _ h.2.2.2.2.1, below_cells hb _ _ h.2.2.2.2.2⟩
theorem sg_start (w : World) (tg dl hg : Nat) (n0 n1 : Int) (e1 e2 : TypeId) : SgAt w tg dl hg n0 n1 ((w.alloc (.cells #[.int .u16 tg, .int .u16 dl, .int .u32 hg] e1)).alloc (.cells #[.int .i64 n0, .int .i64 n1] e2)) := by
  have hs : (w.alloc (.cells #[.int .u16 tg, .int .u16 dl, .int .u32 hg] e1)).heap.size = w.heap.size + 1 := by simp
  refine ⟨((Below.refl _ _).alloc (Nat.le_refl _) _).alloc (by rw [hs]; omega) _, ?_, ?_, ?_, ?_, ?_⟩
  · exact cell_over (by rw [cell_at (heap_alloc_new w _)]; rfl) _
  · exact cell_over (by rw [cell_at (heap_alloc_new w _)]; rfl) _
  · exact cell_over (by rw [cell_at (heap_alloc_new w _)]; rfl) _
  · rw [← hs, cell_at (heap_alloc_new _ _)]; rfl
  · rw [← hs, cell_at (heap_alloc_new _ _)]; rfl

set_option maxRecDepth 100000 in
set_option maxHeartbeats 4000000 in
theorem lockSigns_walk (n : Int) (vb : Value) (x : PBr) (vw : Value) (ws : List ByteArray) (w : World) (hn : (Lit.int .i64 n).wf = true) (hb : BrAt vb x) (hw : SlAt rpStr w vw ws) :
    Calls Try.prog 8 #[.int .i64 n, vb, vw] w fun e w' => e = .returned (.bool true) ∧ Below w.heap.size w w' := by
  obtain ⟨rfl, ho1, ho2, ho3⟩ := hb
  obtain ⟨tg, dl, hg⟩ := x
  dsimp only at *
  obtain ⟨a, c, rfl, hl1, hl2⟩ := hw.shape
  rw [maxLen_eq] at hl2
  have HA := Lib.hid hw
  clear hw
  generalize ws.length = nw at *
  obtain ⟨m, hm⟩ : ∃ m : Nat, m = min nw 3 := ⟨_, rfl⟩
  have hmi : min (nw : Int) 3 = (m : Int) := by omega
  have hmn : m ≤ nw := by omega
  have HA2 := Lib.hid (HA.out.cut hmn)
  clear hm
  generalize ws.take m = A at *
  have HO1 := Lib.hid ho1
  have HO2 := Lib.hid ho2
  clear ho1 ho2 ho3
  have hn1 : 0 ≤ max 0 n % 4 ∧ max 0 n % 4 < 4 := ⟨Int.emod_nonneg _ (by decide), Int.emod_lt_of_pos _ (by decide)⟩
  go_enter Try.func8, Try.ntmps8
  go_wp2_with fail
  generalize max 0 n % 4 = n1 at *
  have HN1 := Lib.hid hn1
  clear hn1
  have hstart := sg_start w tg dl hg n n1 51 3
  generalize (w.alloc (.cells #[.int .u16 tg, .int .u16 dl, .int .u32 hg] 51)).alloc (.cells #[.int .i64 n, .int .i64 n1] 3) = w0 at *
  have HS0 := Lib.hid hstart
  clear hstart
  go_loopw [8, 9, 10, 11, 12, 13, 26] (fun _ _ _ _ _ _ i wr => ∃ k : Nat, k ≤ 2 ∧ i = .int .i64 k ∧ SgAt w tg dl hg n n1 wr) (fun _ _ _ _ _ _ i _ => 2 - (intOf i).toNat)
  case atStart => exact ⟨0, by omega, rfl, HS0.out⟩
  case round =>
    obtain ⟨k, hk, rfl, hsg⟩ := hrel
    by_cases hlt : k < 2
    · obtain ⟨y, hy, hyk⟩ : ∃ y : Int, wr.cell? ⟨w.heap.size + 1, k, none⟩ = some (.int .i64 y) ∧ (-9223372036854775808 ≤ y ∧ y ≤ 9223372036854775807) := by
        match k, hlt with
        | 0, _ => exact ⟨n, hsg.2.2.2.2.1, wf_i64 hn⟩
        | 1, _ => exact ⟨n1, hsg.2.2.2.2.2, by have := HN1.out; omega⟩
      have hc0 := hsg.2.1
      have HSG := Lib.hid hsg
      clear hsg
      by_cases hin : 0 ≤ y ∧ y < 3
      · obtain ⟨q, rfl⟩ : ∃ q : Nat, y = q := ⟨y.toNat, by omega⟩
        have hq3 : q < 3 := by omega
        clear hin
        go_wp2_with fail
        refine (sign_yes q tg hq3 HO1.out _).mono ?_
        rintro e w1 ⟨v1, rfl, hv1, hb1⟩
        have HS1 := Lib.hid (HSG.out.next hb1)
        have hc1 := HS1.out.2.1
        have HV1 := Lib.hid hv1
        obtain ⟨a1, c1, rfl, -, -⟩ := hv1.shape
        clear hb1 hv1
        have hq0 : (0 : Int) ≤ (q : Int) := by omega
        have hq2 : (q : Int) ≤ 2 := by omega
        go_wp2_with fail
        refine (signed_any _ _ _ HV1.out).mono ?_
        rintro e w2 ⟨rfl, hb2⟩
        rw [signedOf_signW hq3 HO1.out]
        have HS2 := Lib.hid (HS1.out.next hb2)
        have hc2 := HS2.out.2.1
        have HV2 := Lib.hid (HV1.out.below hb2)
        clear hb2 HV1
        simp only [Option.getD, Option.isSome, if_true]
        go_wp2_with fail
        refine (rsign_any q tg hq3 HO1.out _).mono ?_
        rintro e w3 ⟨v3, rfl, hv3, hb3⟩
        have HS3 := Lib.hid (HS2.out.next hb3)
        have hc3 := HS3.out.2.1
        have HE := Lib.hid ((eqstr_any _ _ _ _ w3 (HV2.out.below hb3) hv3).mono (R' := fun e w'' => e = .returned (.bool true) ∧ Below w3.heap.size w3 w'') fun e w'' ⟨h1, h2⟩ => ⟨by rw [h1]; simp, h2⟩)
        obtain ⟨a3, c3, rfl, -, -⟩ := hv3.shape
        clear hb3 hv3 HV2
        go_wp2_with fail
        refine HE.out.mono ?_
        rintro e w4 ⟨rfl, hb4⟩
        have HS4 := Lib.hid (HS3.out.next hb4)
        have hc4 := HS4.out.2.1
        clear hb4
        go_wp2_with fail
        go_roundw
        case rel => exact ⟨k + 1, by omega, by go_num, HS4.out⟩
        case measure => simp [intOf]; omega
      · have hno : y < 0 ∨ 3 ≤ y := by omega
        have hd : (decide (0 ≤ y) && decide (y ≤ 2)) = false := by
          rcases hno with h | h
          · rw [decide_eq_false (by omega : ¬ 0 ≤ y)]; rfl
          · rw [decide_eq_false (by omega : ¬ y ≤ 2)]; simp
        rcases hno with hneg | hbig
        · have f1 : ((0 : Int) ≤ y) = False := eq_false (by omega)
          have f2 : (y ≤ 2) = True := eq_true (by omega)
          clear hin hd hyk
          go_wp2_with fail
          refine (sign_no y tg (.inl hneg) _).mono ?_
          rintro e w1 ⟨rfl, rfl⟩
          go_wp2_with fail
          refine (signed_any _ [] _ sl_strnil).mono ?_
          rintro e w2 ⟨rfl, hb2⟩
          have HS2 := Lib.hid (HSG.out.next hb2)
          have hc2 := HS2.out.2.1
          clear hb2
          go_wp2_with fail
          go_roundw
          case rel => exact ⟨k + 1, by omega, by go_num, HS2.out⟩
          case measure => simp [intOf]; omega
        · have f1 : ((0 : Int) ≤ y) = True := eq_true (by omega)
          have f2 : (y ≤ 2) = False := eq_false (by omega)
          clear hin hd hyk
          go_wp2_with fail
          refine (sign_no y tg (.inr hbig) _).mono ?_
          rintro e w1 ⟨rfl, rfl⟩
          go_wp2_with fail
          refine (signed_any _ [] _ sl_strnil).mono ?_
          rintro e w2 ⟨rfl, hb2⟩
          have HS2 := Lib.hid (HSG.out.next hb2)
          have hc2 := HS2.out.2.1
          clear hb2
          go_wp2_with fail
          go_roundw
          case rel => exact ⟨k + 1, by omega, by go_num, HS2.out⟩
          case measure => simp [intOf]; omega
    · obtain rfl : k = 2 := by omega
      have HS := Lib.hid hsg
      clear hlt hk hsg
      have HAw := Lib.hid (HA2.out.below HS.out.1)
      go_wp2_with fail
      refine (signed_any _ _ _ HAw.out).mono ?_
      rintro e w1 ⟨rfl, hb1⟩
      have HS1 := Lib.hid (HS.out.next hb1)
      have HA1 := Lib.hid (HAw.out.below hb1)
      clear hb1
      cases hso : signedOf A with
      | none =>
        simp only [Option.getD, Option.isSome]
        go_wp2_with fail
        refine (rsigned_any _ _ _ HA1.out).mono ?_
        rintro e w2 ⟨rfl, hb2⟩
        have HS2 := Lib.hid (HS1.out.next hb2)
        clear hb2
        rw [hso]
        clear hso
        go_wp2_with fail
        refine (wakes_any _).mono ?_
        rintro e w3 ⟨rfl, hb3⟩
        have HS3 := Lib.hid (HS2.out.next hb3)
        clear hb3
        go_wp2
        go_ret
        exact ⟨rfl, HS3.out.1⟩
      | some p =>
        obtain ⟨x, t⟩ := p
        have hlt2 := signedOf_lt hso
        have ht : t < 65536 := hlt2.2
        simp only [Option.getD, Option.isSome, if_true]
        go_wp2_with fail
        refine (rsigned_any _ _ _ HA1.out).mono ?_
        rintro e w2 ⟨rfl, hb2⟩
        have HS2 := Lib.hid (HS1.out.next hb2)
        have hd2 := HS2.out.2.2.1
        clear hb2
        rw [hso]
        clear hso
        simp only []
        have hx0 : ((x : Int) < 0) = False := eq_false (by omega)
        have hx1 : ((0 : Int) ≤ (x : Int)) = True := eq_true (by omega)
        clear hlt2
        have HSQ := Lib.hid (fun w => sequence_any tg dl hg w HO2.out)
        by_cases hdl : 0 < dl
        · rw [if_pos hdl] at HSQ
          have hdl2 := HO2.out
          go_wp2_with fail
          refine (wakes_any _).mono ?_
          rintro e w3 ⟨rfl, hb3⟩
          have HS3 := Lib.hid (HS2.out.next hb3)
          clear hb3
          have h30 := HS3.out.2.1
          have h31 := HS3.out.2.2.1
          have h32 := HS3.out.2.2.2.1
          go_wp2_with fail
          refine (HSQ.out _).mono ?_
          rintro e w4 ⟨rfl, hb4⟩
          have HS4 := Lib.hid (HS3.out.next hb4)
          clear hb4
          go_wp2
          go_ret
          exact ⟨rfl, HS4.out.1⟩
        · rw [if_neg hdl] at HSQ
          obtain rfl : dl = 0 := by omega
          clear hdl
          go_wp2_with fail
          refine (wakes_any _).mono ?_
          rintro e w3 ⟨rfl, hb3⟩
          have HS3 := Lib.hid (HS2.out.next hb3)
          clear hb3
          have h30 := HS3.out.2.1
          have h31 := HS3.out.2.2.1
          have h32 := HS3.out.2.2.2.1
          go_wp2_with fail
          refine (HSQ.out _).mono ?_
          rintro e w4 ⟨rfl, hb4⟩
          have HS4 := Lib.hid (HS3.out.next hb4)
          clear hb4
          go_wp2
          go_ret
          exact ⟨rfl, HS4.out.1⟩
end Go.Proofs.Ytiicigpndagecaa
