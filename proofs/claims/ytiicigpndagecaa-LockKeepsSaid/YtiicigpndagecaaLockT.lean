/-
  Locks: a Spend as plain data; its script, and the transaction that is to open it. Conditions: none beyond each theorem's own.
-/
import Derived.Test.YtiicigpndagecaaLockS
import Derived.Test.YtiicigpndagecaaLockB
import Derived.Test.YtiicigpndagecaaFit
namespace Go.Proofs.Ytiicigpndagecaa
open Go.RowKit Go.ChangeShapes Go.WideShapes
set_option linter.unusedVariables false
set_option linter.unusedSimpArgs false

theorem wf_u8 {n : Int} (h : (Lit.int .u8 n).wf = true) : 0 ≤ n ∧ n ≤ 255 := by simpa [Lit.wf, IntKind.min, IntKind.max, IntKind.signed, IntKind.bits] using h

structure PSpend where
  brs : List PBr
  script : ByteArray
  tx : PTx
  in_ : Int
  coin : Int
  height : Int
  raw : Bool
  own : Bool
  br : Nat
  tg : Nat
def i64ok (n : Int) : Prop := -9223372036854775808 ≤ n ∧ n ≤ 9223372036854775807
structure SpAt (w : World) (v : Value) (z : PSpend) : Prop where
  is : ∃ vb va vo, v = .agg #[vb, .string z.script, .int .u32 z.tx.ver, va, vo, .int .u32 z.tx.lock, .int .i64 z.in_, .int .i64 z.coin, .int .i64 z.height, .bool z.raw, .bool z.own, .int .u8 z.br, .int .u8 z.tg] ∧
    SlAt rpBr w vb z.brs ∧ TxAt w (.agg #[.int .u32 z.tx.ver, va, vo, .int .u32 z.tx.lock]) z.tx
  script : z.script.size ≤ maxLen
  in_ : i64ok z.in_
  coin : i64ok z.coin
  height : i64ok z.height
  br : z.br < 256
  tg : z.tg < 256

set_option maxRecDepth 100000 in
set_option maxHeartbeats 1000000 in
theorem rp_of_spend {H : Type} {enc : TypeId × Value → H} {w : World} {spare : Nat → Bool} {held : Bool} {fuel : Nat} {cs : List Value} {y : DataW H × List MemPlace} (h : DataW.trod enc Try.prog w 0 spare held fuel 29 cs = some y) : ∃ z, SpAt w (.agg cs.toArray) z := by
  obtain ⟨xs, n, _, _, hl, hlen, hf⟩ := DataW.trod_struct Try.underlying29 h
  have hc : Try.prog.cellsOf 29 = 13 := by kernel_rfl
  rw [hc] at hl
  match cs, hl with
  | [c0, c1, c2, c3, c4, c5, c6, c7, c8, c9, c10, c11, c12], _ =>
    have hlen' : xs.length = 10 := hlen
    have g0 := hf 0 _ rfl
    have g1 := hf 1 _ rfl
    have g2 := hf 2 _ rfl
    have g3 := hf 3 _ rfl
    have g4 := hf 4 _ rfl
    have g5 := hf 5 _ rfl
    have g6 := hf 6 _ rfl
    have g7 := hf 7 _ rfl
    have g8 := hf 8 _ rfl
    have g9 := hf 9 _ rfl
    rw [List.getElem?_eq_getElem (by omega)] at g0 g1 g2 g3 g4 g5 g6 g7 g8 g9
    obtain ⟨bs, v0, e0, w0⟩ := rp_of_slice (R := rpBr) Try.underlying22 (by kernel_rfl) (by decide) (fun _ _ _ => rp_of_br) g0
    obtain ⟨s1, e1, w1⟩ := rp_of_str Try.underlying9 g1
    obtain ⟨t2, e2⟩ := rp_of_tx g2
    obtain ⟨n3, e3, w3⟩ := rp_of_int Try.underlying3 g3
    obtain ⟨n4, e4, w4⟩ := rp_of_int Try.underlying3 g4
    obtain ⟨n5, e5, w5⟩ := rp_of_int Try.underlying3 g5
    obtain ⟨b6, e6⟩ := rp_of_bool Try.underlying4 g6
    obtain ⟨b7, e7⟩ := rp_of_bool Try.underlying4 g7
    obtain ⟨n8, e8, w8⟩ := rp_of_int Try.underlying5 g8
    obtain ⟨n9, e9, w9⟩ := rp_of_int Try.underlying5 g9
    have k0 : Try.prog.cellsOf 22 = 1 := by kernel_rfl
    have k1 : Try.prog.cellsOf 9 = 1 := by kernel_rfl
    have k2 : Try.prog.cellsOf 27 = 4 := by kernel_rfl
    have k3 : Try.prog.cellsOf 3 = 1 := by kernel_rfl
    have k4 : Try.prog.cellsOf 4 = 1 := by kernel_rfl
    have k5 : Try.prog.cellsOf 5 = 1 := by kernel_rfl
    let L := [c0, c1, c2, c3, c4, c5, c6, c7, c8, c9, c10, c11, c12]
    have e0' : (L.drop 0).take (Try.prog.cellsOf 22) = [v0] := e0
    have e1' : (L.drop 1).take (Try.prog.cellsOf 9) = [.string s1] := e1
    have e2' : TxAt w (.agg ((L.drop 2).take (Try.prog.cellsOf 27)).toArray) t2 := e2
    have e3' : (L.drop 6).take (Try.prog.cellsOf 3) = [.int .i64 n3] := e3
    have e4' : (L.drop 7).take (Try.prog.cellsOf 3) = [.int .i64 n4] := e4
    have e5' : (L.drop 8).take (Try.prog.cellsOf 3) = [.int .i64 n5] := e5
    have e6' : (L.drop 9).take (Try.prog.cellsOf 4) = [.bool b6] := e6
    have e7' : (L.drop 10).take (Try.prog.cellsOf 4) = [.bool b7] := e7
    have e8' : (L.drop 11).take (Try.prog.cellsOf 5) = [.int .u8 n8] := e8
    have e9' : (L.drop 12).take (Try.prog.cellsOf 5) = [.int .u8 n9] := e9
    rw [k0] at e0'
    rw [k1] at e1'
    rw [k2] at e2'
    rw [k3] at e3' e4' e5'
    rw [k4] at e6' e7'
    rw [k5] at e8' e9'
    have f0 : c0 = v0 := by simpa [L] using e0'
    have f1 : c1 = .string s1 := by simpa [L] using e1'
    have f2 : TxAt w (.agg #[c2, c3, c4, c5]) t2 := e2'
    have f3 : c6 = .int .i64 n3 := by simpa [L] using e3'
    have f4 : c7 = .int .i64 n4 := by simpa [L] using e4'
    have f5 : c8 = .int .i64 n5 := by simpa [L] using e5'
    have f6 : c9 = .bool b6 := by simpa [L] using e6'
    have f7 : c10 = .bool b7 := by simpa [L] using e7'
    have f8 : c11 = .int .u8 n8 := by simpa [L] using e8'
    have f9 : c12 = .int .u8 n9 := by simpa [L] using e9'
    have b8 := wf_u8 w8
    have b9 := wf_u8 w9
    obtain ⟨va, vo, hx, h1, h2, h3, h4⟩ := id f2
    obtain ⟨rfl, rfl, rfl, rfl⟩ : c2 = .int .u32 t2.ver ∧ c3 = va ∧ c4 = vo ∧ c5 = .int .u32 t2.lock := by simpa using hx
    subst f0 f1 f3 f4 f5 f6 f7 f8 f9
    refine ⟨⟨bs, s1, t2, n3, n4, n5, b6, b7, n8.toNat, n9.toNat⟩, ⟨c0, c3, c4, ?_, w0, f2⟩, w1, wf_i64 w3, wf_i64 w4, wf_i64 w5, by dsimp only; omega, by dsimp only; omega⟩
    dsimp only
    rw [show ((n8.toNat : Nat) : Int) = n8 by omega, show ((n9.toNat : Nat) : Int) = n9 by omega]

set_option maxRecDepth 100000 in
theorem open_spend {H : Type} {enc : TypeId × Value → H} {w : World} {v : Value} {d : DataW H} {ps : List MemPlace} (hv : Value.okWide Try.prog w .any 0 29 v) (h : DataW.Trod enc Try.prog w 0 (fun _ => true) true 29 v d ps) :
    ∃ z : PSpend, SpAt w v z := by
  obtain ⟨cs, rfl, -⟩ := Go.WideShapes.okWide_struct Try.underlying29 hv
  obtain ⟨fuel, hf⟩ := h
  obtain ⟨x, hx⟩ := rp_of_spend hf
  exact ⟨x, by simpa [Value.cells] using hx⟩

theorem SpAt.below {w w' : World} {v : Value} {z : PSpend} (h : SpAt w v z) (hb : Below w.heap.size w w') : SpAt w' v z := by
  obtain ⟨⟨vb, va, vo, h1, h2, h3⟩, r⟩ := h
  exact ⟨⟨vb, va, vo, h1, h2.below hb, h3.below hb⟩, r, by assumption, by assumption, by assumption, by assumption, by assumption⟩

/-! ### the script -/
def ScrIs (w : World) (e : Ending) (w' : World) : Prop := ∃ s : ByteArray, e = .returned (.string s) ∧ s.size ≤ 9223372036854775807 ∧ Below w.heap.size w w'

set_option maxRecDepth 100000 in
set_option maxHeartbeats 2000000 in
theorem script_any (v : Value) (z : PSpend) (w : World) (hv : SpAt w v z) : Calls Try.prog 9 #[v] w (ScrIs w) := by
  obtain ⟨⟨vb, va, vo, rfl, hb, ht⟩, hs, h1, h2, h3, h4, h5⟩ := hv
  obtain ⟨xs, s, t, n3, n4, n5, raw, own, br, tg⟩ := z
  dsimp only at *
  obtain ⟨a, c, rfl, hl1, hl2⟩ := hb.shape
  rw [maxLen_eq] at hl2 hs
  have HA := Lib.hid hb
  clear hb ht h1 h2 h3 h4 h5
  generalize xs.length = n at *
  obtain ⟨m, hm⟩ : ∃ m : Nat, m = min n 3 := ⟨_, rfl⟩
  have hmi : min (n : Int) 3 = (m : Int) := by omega
  have hmn : m ≤ n := by omega
  have HA2 := Lib.hid (HA.out.cut hmn)
  obtain ⟨q, hq⟩ : ∃ m : Nat, m = min s.size 40 := ⟨_, rfl⟩
  have hqi : min (s.size : Int) 40 = (q : Int) := by omega
  have hqn : q ≤ s.size := by omega
  clear hm hq
  generalize xs.take m = A at *
  obtain ⟨x, ex, hpa⟩ : ∃ x ex, lockPut A = (x, ex) := ⟨_, _, rfl⟩
  have hxl : (⟨x.toArray⟩ : ByteArray).size ≤ 9223372036854775807 := by
    have := lockPut_len A
    rw [hpa] at this
    dsimp only at this
    rw [mk_size]
    omega
  have hCB := fun w' (hw' : Below w.heap.size w w') => (rlput_any (.slice a m c) A w' (HA2.out.below hw')).mono (R' := fun e w'' => e = .returned (.tuple #[.string ⟨x.toArray⟩, .int .i64 ex]) ∧ Below w'.heap.size w' w'') fun e w'' ⟨h1, h2⟩ => ⟨by rw [h1, hpa], h2⟩
  generalize (⟨x.toArray⟩ : ByteArray) = sx at *
  have HCB := Lib.hid hCB
  have HXL := Lib.hid hxl
  clear hCB hxl hpa
  have ha : Below w.heap.size w (w.alloc (.cells #[.slice a n c, .string s, .int .u32 t.ver, va, vo, .int .u32 t.lock, .int .i64 n3, .int .i64 n4, .int .i64 n5, .bool raw, .bool own, .int .u8 br, .int .u8 tg] 29)) := (Below.refl _ _).alloc (Nat.le_refl _) _
  have HAL := Lib.hid ha
  clear ha
  go_enter Try.func9, Try.ntmps9
  go_wp2_with fail
  refine (HCB.out _ HAL.out).mono ?_
  rintro e w1 ⟨rfl, hb1⟩
  have c1 : w1.cell? ⟨w.heap.size, 1, none⟩ = some (.string s) := below_cells hb1 _ _ (by rw [cell_at (heap_alloc_new w _)]; rfl)
  have c9 : w1.cell? ⟨w.heap.size, 9, none⟩ = some (.bool raw) := below_cells hb1 _ _ (by rw [cell_at (heap_alloc_new w _)]; rfl)
  have H1 := Lib.hid (HAL.out.trans (hb1.mono HAL.out.size))
  clear hb1
  have hsx : (s.extract 0 q).size ≤ 9223372036854775807 := by simp [ByteArray.size_extract]; omega
  have HSX := Lib.hid hsx
  clear hsx
  by_cases hex : ex = 0
  · subst hex
    cases raw
    · go_wp2
      go_ret
      exact ⟨_, rfl, HXL.out, H1.out⟩
    · go_wp2
      go_ret
      exact ⟨_, rfl, HSX.out, H1.out⟩
  · have hb0 : (ex != 0) = true := by rw [bne_iff_ne]; exact hex
    cases raw
    · go_wp2
      go_ret
      exact ⟨_, rfl, HSX.out, H1.out⟩
    · go_wp2
      go_ret
      exact ⟨_, rfl, HSX.out, H1.out⟩

end Go.Proofs.Ytiicigpndagecaa
