/-
  RecBack, part 12: the texts Eo, Ew1, Regs, one after another. Conditions: none beyond those named at each.
-/
import Derived.Test.YtaooibocknemkaaQ6RecBack
import Derived.Test.YtaooibocknemkaaEu
import Derived.Test.YtaooibocknemkaaFit
import Derived.Test.YtaooibocknemkaaCut
import Derived.Deep.MidRow
import Derived.Test.YtaooibocknemkaaQ5RecBack
section
/-
  The law's inputs, as they are handed in. Conditions: none.
-/
namespace Go.Proofs.Ytaooibocknemkaa
open Go.RowKit Go.ChangeShapes Go.WideShapes
set_option linter.unusedVariables false
set_option linter.unusedSimpArgs false
theorem wf_u8q {n : Int} (h : (Lit.int .u8 n).wf = true) : 0 ≤ n ∧ n ≤ 255 := by simpa [Lit.wf, IntKind.min, IntKind.max, IntKind.signed, IntKind.bits] using h
/-- The document's small record. -/
structure PSml where
  kind : Nat
  num : Nat
  tx : PTx
  index : Nat
  br : Nat
  tag : Nat
  delay : Nat
  height : Nat
  point : Nat
  val : Nat
  budget : Nat
  fee : Nat
  dead : Nat
  start : Nat
  raw : PRec
  odd : Bool
structure PSml.Ok (z : PSml) : Prop where
  kind : z.kind < 256
  num : z.num < 256
  index : z.index < 256
  br : z.br < 256
  point : z.point < 256
  val : z.val < 4294967296
  budget : z.budget < 4294967296
  fee : z.fee < 4294967296
  dead : z.dead < 65536
  start : z.start < 65536
  ver : z.tx.ver < 4294967296
  lock : z.tx.lock < 4294967296
  tag : z.tag < 65536
  delay : z.delay < 65536
  height : z.height < 4294967296
  raw : z.raw.Ok
/-- The cells of a small record. -/
def smlCells (x : PSml) (va vb vc vd : Value) : List Value := [.int .u8 x.kind, .int .u8 x.num, .int .u32 x.tx.ver, va, vb, .int .u32 x.tx.lock, .int .u8 x.index, .int .u8 x.br, .int .u16 x.tag, .int .u16 x.delay, .int .u32 x.height, .int .u8 x.point, .int .u32 x.val, .int .u32 x.budget, .int .u32 x.fee, .int .u16 x.dead, .int .u16 x.start, .int .i64 x.raw.kind, .int .i64 x.raw.num, .int .u32 x.raw.tx.ver, vc, vd, .int .u32 x.raw.tx.lock, .int .i64 x.raw.index, .string x.raw.id, .int .u32 x.raw.idx, .int .i64 x.raw.val, .int .i64 x.raw.br, .int .u16 x.raw.tag, .int .u16 x.raw.delay, .int .u32 x.raw.height, .int .i64 x.raw.dead, .int .i64 x.raw.budget, .int .i64 x.raw.start, .int .i64 x.raw.fee, .bool x.odd]
def SmlAt (w : World) (cs : List Value) (x : PSml) : Prop := ∃ va vb vc vd, cs = smlCells x va vb vc vd ∧ SlAt rpIn w va x.tx.ins ∧ SlAt rpOut w vb x.tx.outs ∧ SlAt rpIn w vc x.raw.tx.ins ∧ SlAt rpOut w vd x.raw.tx.outs ∧ x.Ok
def rpSml : Rp PSml := ⟨36, SmlAt, fun hw ⟨va, vb, vc, vd, h1, h2, h3, h4, h5, h6⟩ => ⟨va, vb, vc, vd, h1, SlAt.mono h2 hw, SlAt.mono h3 hw, SlAt.mono h4 hw, SlAt.mono h5 hw, h6⟩⟩
section
variable {H : Type} {enc : TypeId × Value → H} {w : World} {spare : Nat → Bool} {held : Bool}
set_option maxRecDepth 100000 in
theorem rp_of_branch {fuel : Nat} {cs : List Value} {y : DataW H × List MemPlace} (h : DataW.trod enc Try.prog w 0 spare held fuel 32 cs = some y) : ∃ t d h : Nat, cs = [.int .u16 t, .int .u16 d, .int .u32 h] ∧ t < 65536 ∧ d < 65536 ∧ h < 4294967296 := by
  obtain ⟨xs, n, _, _, hl, hlen, hf⟩ := DataW.trod_struct Try.underlying32 h
  have hc : Try.prog.cellsOf 32 = 3 := by kernel_rfl
  rw [hc] at hl
  match cs, hl with
  | c0 :: c1 :: c2 :: [], _ =>
    have hlen' : xs.length = 3 := hlen
    have g0 := hf 0 _ rfl
    have g1 := hf 1 _ rfl
    have g2 := hf 2 _ rfl
    rw [List.getElem?_eq_getElem (by omega)] at g0 g1 g2
    obtain ⟨n0, e0, w0⟩ := rp_of_int Try.underlying30 g0
    have k0 : Try.prog.cellsOf 30 = 1 := by kernel_rfl
    have e0' : ([c0, c1, c2].drop 0).take (Try.prog.cellsOf 30) = [.int .u16 n0] := e0
    rw [k0] at e0'
    have f0 : c0 = .int .u16 n0 := by simpa using e0'
    obtain ⟨n1, e1, w1⟩ := rp_of_int Try.underlying30 g1
    have k1 : Try.prog.cellsOf 30 = 1 := by kernel_rfl
    have e1' : ([c0, c1, c2].drop 1).take (Try.prog.cellsOf 30) = [.int .u16 n1] := e1
    rw [k1] at e1'
    have f1 : c1 = .int .u16 n1 := by simpa using e1'
    obtain ⟨n2, e2, w2⟩ := rp_of_int Try.underlying23 g2
    have k2 : Try.prog.cellsOf 23 = 1 := by kernel_rfl
    have e2' : ([c0, c1, c2].drop 2).take (Try.prog.cellsOf 23) = [.int .u32 n2] := e2
    rw [k2] at e2'
    have f2 : c2 = .int .u32 n2 := by simpa using e2'
    have b0 : 0 ≤ n0 ∧ n0 ≤ 65535 := wf_u16 w0
    have b1 : 0 ≤ n1 ∧ n1 ≤ 65535 := wf_u16 w1
    have b2 : 0 ≤ n2 ∧ n2 ≤ 4294967295 := wf_u32 w2
    refine ⟨n0.toNat, n1.toNat, n2.toNat, ?_, by omega, by omega, by omega⟩
    rw [f0, f1, f2, show ((n0.toNat : Nat) : Int) = n0 by omega, show ((n1.toNat : Nat) : Int) = n1 by omega, show ((n2.toNat : Nat) : Int) = n2 by omega]
set_option maxRecDepth 100000 in
theorem rp_of_claim {fuel : Nat} {cs : List Value} {y : DataW H × List MemPlace} (h : DataW.trod enc Try.prog w 0 spare held fuel 36 cs = some y) : ∃ (id : ByteArray) (ix : Nat) (val br : Int) (t d h : Nat) (dead : Int), cs = [.string id, .int .u32 ix, .int .i64 val, .int .i64 br, .int .u16 t, .int .u16 d, .int .u32 h, .int .i64 dead] ∧ id.size ≤ maxLen ∧ ix < 4294967296 ∧ i64R val ∧ i64R br ∧ t < 65536 ∧ d < 65536 ∧ h < 4294967296 ∧ i64R dead := by
  obtain ⟨xs, n, _, _, hl, hlen, hf⟩ := DataW.trod_struct Try.underlying36 h
  have hc : Try.prog.cellsOf 36 = 8 := by kernel_rfl
  rw [hc] at hl
  match cs, hl with
  | c0 :: c1 :: c2 :: c3 :: c4 :: c5 :: c6 :: c7 :: [], _ =>
    have hlen' : xs.length = 5 := hlen
    have g0 := hf 0 _ rfl
    have g1 := hf 1 _ rfl
    have g2 := hf 2 _ rfl
    have g3 := hf 3 _ rfl
    have g4 := hf 4 _ rfl
    rw [List.getElem?_eq_getElem (by omega)] at g0 g1 g2 g3 g4
    obtain ⟨s0, n0, e0, w0, v0⟩ := rp_of_point g0
    have k0 : Try.prog.cellsOf 34 = 2 := by kernel_rfl
    have e0' : ([c0, c1, c2, c3, c4, c5, c6, c7].drop 0).take (Try.prog.cellsOf 34) = [.string s0, .int .u32 n0] := e0
    rw [k0] at e0'
    obtain ⟨f0, f1⟩ : c0 = .string s0 ∧ c1 = .int .u32 n0 := by simpa using e0'
    obtain ⟨n1, e1, w1⟩ := rp_of_int Try.underlying3 g1
    have k1 : Try.prog.cellsOf 3 = 1 := by kernel_rfl
    have e1' : ([c0, c1, c2, c3, c4, c5, c6, c7].drop 2).take (Try.prog.cellsOf 3) = [.int .i64 n1] := e1
    rw [k1] at e1'
    have f2 : c2 = .int .i64 n1 := by simpa using e1'
    obtain ⟨n2, e2, w2⟩ := rp_of_int Try.underlying3 g2
    have k2 : Try.prog.cellsOf 3 = 1 := by kernel_rfl
    have e2' : ([c0, c1, c2, c3, c4, c5, c6, c7].drop 3).take (Try.prog.cellsOf 3) = [.int .i64 n2] := e2
    rw [k2] at e2'
    have f3 : c3 = .int .i64 n2 := by simpa using e2'
    obtain ⟨t3, d3, h3, e3, wt3, wd3, wh3⟩ := rp_of_branch g3
    have k3 : Try.prog.cellsOf 32 = 3 := by kernel_rfl
    have e3' : ([c0, c1, c2, c3, c4, c5, c6, c7].drop 4).take (Try.prog.cellsOf 32) = [.int .u16 t3, .int .u16 d3, .int .u32 h3] := e3
    rw [k3] at e3'
    obtain ⟨f4, f5, f6⟩ : c4 = .int .u16 t3 ∧ c5 = .int .u16 d3 ∧ c6 = .int .u32 h3 := by simpa using e3'
    obtain ⟨n4, e4, w4⟩ := rp_of_int Try.underlying3 g4
    have k4 : Try.prog.cellsOf 3 = 1 := by kernel_rfl
    have e4' : ([c0, c1, c2, c3, c4, c5, c6, c7].drop 7).take (Try.prog.cellsOf 3) = [.int .i64 n4] := e4
    rw [k4] at e4'
    have f7 : c7 = .int .i64 n4 := by simpa using e4'
    refine ⟨s0, n0, n1, n2, t3, d3, h3, n4, ?_, w0, v0, wf_i64 w1, wf_i64 w2, wt3, wd3, wh3, wf_i64 w4⟩
    rw [f0, f1, f2, f3, f4, f5, f6, f7]
set_option maxRecDepth 100000 in
theorem rp_of_record {fuel : Nat} {cs : List Value} {y : DataW H × List MemPlace} (h : DataW.trod enc Try.prog w 0 spare held fuel 38 cs = some y) : ∃ x, RecAt w (.agg cs.toArray) x := by
  obtain ⟨xs, n, _, _, hl, hlen, hf⟩ := DataW.trod_struct Try.underlying38 h
  have hc : Try.prog.cellsOf 38 = 18 := by kernel_rfl
  rw [hc] at hl
  match cs, hl with
  | c0 :: c1 :: c2 :: c3 :: c4 :: c5 :: c6 :: c7 :: c8 :: c9 :: c10 :: c11 :: c12 :: c13 :: c14 :: c15 :: c16 :: c17 :: [], _ =>
    have hlen' : xs.length = 8 := hlen
    have g0 := hf 0 _ rfl
    have g1 := hf 1 _ rfl
    have g2 := hf 2 _ rfl
    have g3 := hf 3 _ rfl
    have g4 := hf 4 _ rfl
    have g5 := hf 5 _ rfl
    have g6 := hf 6 _ rfl
    have g7 := hf 7 _ rfl
    rw [List.getElem?_eq_getElem (by omega)] at g0 g1 g2 g3 g4 g5 g6 g7
    obtain ⟨n0, e0, w0⟩ := rp_of_int Try.underlying3 g0
    have k0 : Try.prog.cellsOf 3 = 1 := by kernel_rfl
    have e0' : ([c0, c1, c2, c3, c4, c5, c6, c7, c8, c9, c10, c11, c12, c13, c14, c15, c16, c17].drop 0).take (Try.prog.cellsOf 3) = [.int .i64 n0] := e0
    rw [k0] at e0'
    have f0 : c0 = .int .i64 n0 := by simpa using e0'
    obtain ⟨n1, e1, w1⟩ := rp_of_int Try.underlying3 g1
    have k1 : Try.prog.cellsOf 3 = 1 := by kernel_rfl
    have e1' : ([c0, c1, c2, c3, c4, c5, c6, c7, c8, c9, c10, c11, c12, c13, c14, c15, c16, c17].drop 1).take (Try.prog.cellsOf 3) = [.int .i64 n1] := e1
    rw [k1] at e1'
    have f1 : c1 = .int .i64 n1 := by simpa using e1'
    obtain ⟨tx, ta, tb, e2z, tsa, tsb, tv, tk⟩ := rp_of_tx g2
    have k2 : Try.prog.cellsOf 29 = 4 := by kernel_rfl
    have e2y : Value.agg (([c0, c1, c2, c3, c4, c5, c6, c7, c8, c9, c10, c11, c12, c13, c14, c15, c16, c17].drop 2).take (Try.prog.cellsOf 29)).toArray = .agg #[.int .u32 tx.ver, ta, tb, .int .u32 tx.lock] := e2z
    rw [k2] at e2y
    have e2' : [c2, c3, c4, c5] = [.int .u32 tx.ver, ta, tb, .int .u32 tx.lock] := by
      have h0 := congrArg (fun q : Value => match q with | .agg cs => cs.toList | _ => []) e2y
      exact h0
    obtain ⟨f2, f3, f4, f5⟩ : c2 = .int .u32 tx.ver ∧ c3 = ta ∧ c4 = tb ∧ c5 = .int .u32 tx.lock := by simpa using e2'
    obtain ⟨n3, e3, w3⟩ := rp_of_int Try.underlying3 g3
    have k3 : Try.prog.cellsOf 3 = 1 := by kernel_rfl
    have e3' : ([c0, c1, c2, c3, c4, c5, c6, c7, c8, c9, c10, c11, c12, c13, c14, c15, c16, c17].drop 6).take (Try.prog.cellsOf 3) = [.int .i64 n3] := e3
    rw [k3] at e3'
    have f6 : c6 = .int .i64 n3 := by simpa using e3'
    obtain ⟨cid, cix, cval, cbr, ct, cd, ch, cdead, e4, o1, o2, o3, o4, o5, o6, o7, o8⟩ := rp_of_claim g4
    have k4 : Try.prog.cellsOf 36 = 8 := by kernel_rfl
    have e4' : ([c0, c1, c2, c3, c4, c5, c6, c7, c8, c9, c10, c11, c12, c13, c14, c15, c16, c17].drop 7).take (Try.prog.cellsOf 36) = [.string cid, .int .u32 cix, .int .i64 cval, .int .i64 cbr, .int .u16 ct, .int .u16 cd, .int .u32 ch, .int .i64 cdead] := e4
    rw [k4] at e4'
    obtain ⟨f7, f8, f9, f10, f11, f12, f13, f14⟩ : c7 = .string cid ∧ c8 = .int .u32 cix ∧ c9 = .int .i64 cval ∧ c10 = .int .i64 cbr ∧ c11 = .int .u16 ct ∧ c12 = .int .u16 cd ∧ c13 = .int .u32 ch ∧ c14 = .int .i64 cdead := by simpa using e4'
    obtain ⟨n5, e5, w5⟩ := rp_of_int Try.underlying3 g5
    have k5 : Try.prog.cellsOf 3 = 1 := by kernel_rfl
    have e5' : ([c0, c1, c2, c3, c4, c5, c6, c7, c8, c9, c10, c11, c12, c13, c14, c15, c16, c17].drop 15).take (Try.prog.cellsOf 3) = [.int .i64 n5] := e5
    rw [k5] at e5'
    have f15 : c15 = .int .i64 n5 := by simpa using e5'
    obtain ⟨n6, e6, w6⟩ := rp_of_int Try.underlying3 g6
    have k6 : Try.prog.cellsOf 3 = 1 := by kernel_rfl
    have e6' : ([c0, c1, c2, c3, c4, c5, c6, c7, c8, c9, c10, c11, c12, c13, c14, c15, c16, c17].drop 16).take (Try.prog.cellsOf 3) = [.int .i64 n6] := e6
    rw [k6] at e6'
    have f16 : c16 = .int .i64 n6 := by simpa using e6'
    obtain ⟨n7, e7, w7⟩ := rp_of_int Try.underlying3 g7
    have k7 : Try.prog.cellsOf 3 = 1 := by kernel_rfl
    have e7' : ([c0, c1, c2, c3, c4, c5, c6, c7, c8, c9, c10, c11, c12, c13, c14, c15, c16, c17].drop 17).take (Try.prog.cellsOf 3) = [.int .i64 n7] := e7
    rw [k7] at e7'
    have f17 : c17 = .int .i64 n7 := by simpa using e7'
    refine ⟨⟨n0, n1, tx, n3, cid, cix, cval, cbr, ct, cd, ch, cdead, n5, n6, n7⟩, ta, tb, ?_, tsa, tsb, ⟨wf_i64 w0, wf_i64 w1, tv, tk, wf_i64 w3, o1, o2, o3, o4, o5, o6, o7, o8, wf_i64 w5, wf_i64 w6, wf_i64 w7⟩⟩
    rw [f0, f1, f2, f3, f4, f5, f6, f7, f8, f9, f10, f11, f12, f13, f14, f15, f16, f17]
set_option maxRecDepth 100000 in
theorem rp_of_small {fuel : Nat} {cs : List Value} {y : DataW H × List MemPlace} (h : DataW.trod enc Try.prog w 0 spare held fuel 40 cs = some y) : ∃ x, rpSml.at_ w cs x := by
  obtain ⟨xs, n, _, _, hl, hlen, hf⟩ := DataW.trod_struct Try.underlying40 h
  have hc : Try.prog.cellsOf 40 = 36 := by kernel_rfl
  rw [hc] at hl
  match cs, hl with
  | c0 :: c1 :: c2 :: c3 :: c4 :: c5 :: c6 :: c7 :: c8 :: c9 :: c10 :: c11 :: c12 :: c13 :: c14 :: c15 :: c16 :: c17 :: c18 :: c19 :: c20 :: c21 :: c22 :: c23 :: c24 :: c25 :: c26 :: c27 :: c28 :: c29 :: c30 :: c31 :: c32 :: c33 :: c34 :: c35 :: [], _ =>
    have hlen' : xs.length = 14 := hlen
    have g0 := hf 0 _ rfl
    have g1 := hf 1 _ rfl
    have g2 := hf 2 _ rfl
    have g3 := hf 3 _ rfl
    have g4 := hf 4 _ rfl
    have g5 := hf 5 _ rfl
    have g6 := hf 6 _ rfl
    have g7 := hf 7 _ rfl
    have g8 := hf 8 _ rfl
    have g9 := hf 9 _ rfl
    have g10 := hf 10 _ rfl
    have g11 := hf 11 _ rfl
    have g12 := hf 12 _ rfl
    have g13 := hf 13 _ rfl
    rw [List.getElem?_eq_getElem (by omega)] at g0 g1 g2 g3 g4 g5 g6 g7 g8 g9 g10 g11 g12 g13
    obtain ⟨n0, e0, w0⟩ := rp_of_int Try.underlying5 g0
    have k0 : Try.prog.cellsOf 5 = 1 := by kernel_rfl
    have e0' : ([c0, c1, c2, c3, c4, c5, c6, c7, c8, c9, c10, c11, c12, c13, c14, c15, c16, c17, c18, c19, c20, c21, c22, c23, c24, c25, c26, c27, c28, c29, c30, c31, c32, c33, c34, c35].drop 0).take (Try.prog.cellsOf 5) = [.int .u8 n0] := e0
    rw [k0] at e0'
    have f0 : c0 = .int .u8 n0 := by simpa using e0'
    obtain ⟨n1, e1, w1⟩ := rp_of_int Try.underlying5 g1
    have k1 : Try.prog.cellsOf 5 = 1 := by kernel_rfl
    have e1' : ([c0, c1, c2, c3, c4, c5, c6, c7, c8, c9, c10, c11, c12, c13, c14, c15, c16, c17, c18, c19, c20, c21, c22, c23, c24, c25, c26, c27, c28, c29, c30, c31, c32, c33, c34, c35].drop 1).take (Try.prog.cellsOf 5) = [.int .u8 n1] := e1
    rw [k1] at e1'
    have f1 : c1 = .int .u8 n1 := by simpa using e1'
    obtain ⟨tx, ta, tb, e2z, tsa, tsb, tv, tk⟩ := rp_of_tx g2
    have k2 : Try.prog.cellsOf 29 = 4 := by kernel_rfl
    have e2y : Value.agg (([c0, c1, c2, c3, c4, c5, c6, c7, c8, c9, c10, c11, c12, c13, c14, c15, c16, c17, c18, c19, c20, c21, c22, c23, c24, c25, c26, c27, c28, c29, c30, c31, c32, c33, c34, c35].drop 2).take (Try.prog.cellsOf 29)).toArray = .agg #[.int .u32 tx.ver, ta, tb, .int .u32 tx.lock] := e2z
    rw [k2] at e2y
    have e2' : [c2, c3, c4, c5] = [.int .u32 tx.ver, ta, tb, .int .u32 tx.lock] := by
      have h0 := congrArg (fun q : Value => match q with | .agg cs => cs.toList | _ => []) e2y
      exact h0
    obtain ⟨f2, f3, f4, f5⟩ : c2 = .int .u32 tx.ver ∧ c3 = ta ∧ c4 = tb ∧ c5 = .int .u32 tx.lock := by simpa using e2'
    obtain ⟨n3, e3, w3⟩ := rp_of_int Try.underlying5 g3
    have k3 : Try.prog.cellsOf 5 = 1 := by kernel_rfl
    have e3' : ([c0, c1, c2, c3, c4, c5, c6, c7, c8, c9, c10, c11, c12, c13, c14, c15, c16, c17, c18, c19, c20, c21, c22, c23, c24, c25, c26, c27, c28, c29, c30, c31, c32, c33, c34, c35].drop 6).take (Try.prog.cellsOf 5) = [.int .u8 n3] := e3
    rw [k3] at e3'
    have f6 : c6 = .int .u8 n3 := by simpa using e3'
    obtain ⟨n4, e4, w4⟩ := rp_of_int Try.underlying5 g4
    have k4 : Try.prog.cellsOf 5 = 1 := by kernel_rfl
    have e4' : ([c0, c1, c2, c3, c4, c5, c6, c7, c8, c9, c10, c11, c12, c13, c14, c15, c16, c17, c18, c19, c20, c21, c22, c23, c24, c25, c26, c27, c28, c29, c30, c31, c32, c33, c34, c35].drop 7).take (Try.prog.cellsOf 5) = [.int .u8 n4] := e4
    rw [k4] at e4'
    have f7 : c7 = .int .u8 n4 := by simpa using e4'
    obtain ⟨t5, d5, h5, e5, wt5, wd5, wh5⟩ := rp_of_branch g5
    have k5 : Try.prog.cellsOf 32 = 3 := by kernel_rfl
    have e5' : ([c0, c1, c2, c3, c4, c5, c6, c7, c8, c9, c10, c11, c12, c13, c14, c15, c16, c17, c18, c19, c20, c21, c22, c23, c24, c25, c26, c27, c28, c29, c30, c31, c32, c33, c34, c35].drop 8).take (Try.prog.cellsOf 32) = [.int .u16 t5, .int .u16 d5, .int .u32 h5] := e5
    rw [k5] at e5'
    obtain ⟨f8, f9, f10⟩ : c8 = .int .u16 t5 ∧ c9 = .int .u16 d5 ∧ c10 = .int .u32 h5 := by simpa using e5'
    obtain ⟨n6, e6, w6⟩ := rp_of_int Try.underlying5 g6
    have k6 : Try.prog.cellsOf 5 = 1 := by kernel_rfl
    have e6' : ([c0, c1, c2, c3, c4, c5, c6, c7, c8, c9, c10, c11, c12, c13, c14, c15, c16, c17, c18, c19, c20, c21, c22, c23, c24, c25, c26, c27, c28, c29, c30, c31, c32, c33, c34, c35].drop 11).take (Try.prog.cellsOf 5) = [.int .u8 n6] := e6
    rw [k6] at e6'
    have f11 : c11 = .int .u8 n6 := by simpa using e6'
    obtain ⟨n7, e7, w7⟩ := rp_of_int Try.underlying23 g7
    have k7 : Try.prog.cellsOf 23 = 1 := by kernel_rfl
    have e7' : ([c0, c1, c2, c3, c4, c5, c6, c7, c8, c9, c10, c11, c12, c13, c14, c15, c16, c17, c18, c19, c20, c21, c22, c23, c24, c25, c26, c27, c28, c29, c30, c31, c32, c33, c34, c35].drop 12).take (Try.prog.cellsOf 23) = [.int .u32 n7] := e7
    rw [k7] at e7'
    have f12 : c12 = .int .u32 n7 := by simpa using e7'
    obtain ⟨n8, e8, w8⟩ := rp_of_int Try.underlying23 g8
    have k8 : Try.prog.cellsOf 23 = 1 := by kernel_rfl
    have e8' : ([c0, c1, c2, c3, c4, c5, c6, c7, c8, c9, c10, c11, c12, c13, c14, c15, c16, c17, c18, c19, c20, c21, c22, c23, c24, c25, c26, c27, c28, c29, c30, c31, c32, c33, c34, c35].drop 13).take (Try.prog.cellsOf 23) = [.int .u32 n8] := e8
    rw [k8] at e8'
    have f13 : c13 = .int .u32 n8 := by simpa using e8'
    obtain ⟨n9, e9, w9⟩ := rp_of_int Try.underlying23 g9
    have k9 : Try.prog.cellsOf 23 = 1 := by kernel_rfl
    have e9' : ([c0, c1, c2, c3, c4, c5, c6, c7, c8, c9, c10, c11, c12, c13, c14, c15, c16, c17, c18, c19, c20, c21, c22, c23, c24, c25, c26, c27, c28, c29, c30, c31, c32, c33, c34, c35].drop 14).take (Try.prog.cellsOf 23) = [.int .u32 n9] := e9
    rw [k9] at e9'
    have f14 : c14 = .int .u32 n9 := by simpa using e9'
    obtain ⟨n10, e10, w10⟩ := rp_of_int Try.underlying30 g10
    have k10 : Try.prog.cellsOf 30 = 1 := by kernel_rfl
    have e10' : ([c0, c1, c2, c3, c4, c5, c6, c7, c8, c9, c10, c11, c12, c13, c14, c15, c16, c17, c18, c19, c20, c21, c22, c23, c24, c25, c26, c27, c28, c29, c30, c31, c32, c33, c34, c35].drop 15).take (Try.prog.cellsOf 30) = [.int .u16 n10] := e10
    rw [k10] at e10'
    have f15 : c15 = .int .u16 n10 := by simpa using e10'
    obtain ⟨n11, e11, w11⟩ := rp_of_int Try.underlying30 g11
    have k11 : Try.prog.cellsOf 30 = 1 := by kernel_rfl
    have e11' : ([c0, c1, c2, c3, c4, c5, c6, c7, c8, c9, c10, c11, c12, c13, c14, c15, c16, c17, c18, c19, c20, c21, c22, c23, c24, c25, c26, c27, c28, c29, c30, c31, c32, c33, c34, c35].drop 16).take (Try.prog.cellsOf 30) = [.int .u16 n11] := e11
    rw [k11] at e11'
    have f16 : c16 = .int .u16 n11 := by simpa using e11'
    obtain ⟨rr, ra, rb, e12z, rsa, rsb, rok⟩ := rp_of_record g12
    have k12 : Try.prog.cellsOf 38 = 18 := by kernel_rfl
    have e12y : Value.agg (([c0, c1, c2, c3, c4, c5, c6, c7, c8, c9, c10, c11, c12, c13, c14, c15, c16, c17, c18, c19, c20, c21, c22, c23, c24, c25, c26, c27, c28, c29, c30, c31, c32, c33, c34, c35].drop 17).take (Try.prog.cellsOf 38)).toArray = .agg #[.int .i64 rr.kind, .int .i64 rr.num, .int .u32 rr.tx.ver, ra, rb, .int .u32 rr.tx.lock, .int .i64 rr.index, .string rr.id, .int .u32 rr.idx, .int .i64 rr.val, .int .i64 rr.br, .int .u16 rr.tag, .int .u16 rr.delay, .int .u32 rr.height, .int .i64 rr.dead, .int .i64 rr.budget, .int .i64 rr.start, .int .i64 rr.fee] := e12z
    rw [k12] at e12y
    have e12' : [c17, c18, c19, c20, c21, c22, c23, c24, c25, c26, c27, c28, c29, c30, c31, c32, c33, c34] = [.int .i64 rr.kind, .int .i64 rr.num, .int .u32 rr.tx.ver, ra, rb, .int .u32 rr.tx.lock, .int .i64 rr.index, .string rr.id, .int .u32 rr.idx, .int .i64 rr.val, .int .i64 rr.br, .int .u16 rr.tag, .int .u16 rr.delay, .int .u32 rr.height, .int .i64 rr.dead, .int .i64 rr.budget, .int .i64 rr.start, .int .i64 rr.fee] := by
      have h0 := congrArg (fun q : Value => match q with | .agg cs => cs.toList | _ => []) e12y
      exact h0
    obtain ⟨f17, f18, f19, f20, f21, f22, f23, f24, f25, f26, f27, f28, f29, f30, f31, f32, f33, f34⟩ : c17 = .int .i64 rr.kind ∧ c18 = .int .i64 rr.num ∧ c19 = .int .u32 rr.tx.ver ∧ c20 = ra ∧ c21 = rb ∧ c22 = .int .u32 rr.tx.lock ∧ c23 = .int .i64 rr.index ∧ c24 = .string rr.id ∧ c25 = .int .u32 rr.idx ∧ c26 = .int .i64 rr.val ∧ c27 = .int .i64 rr.br ∧ c28 = .int .u16 rr.tag ∧ c29 = .int .u16 rr.delay ∧ c30 = .int .u32 rr.height ∧ c31 = .int .i64 rr.dead ∧ c32 = .int .i64 rr.budget ∧ c33 = .int .i64 rr.start ∧ c34 = .int .i64 rr.fee := by simpa using e12'
    obtain ⟨n13, e13⟩ := rp_of_bool Try.underlying4 g13
    have k13 : Try.prog.cellsOf 4 = 1 := by kernel_rfl
    have e13' : ([c0, c1, c2, c3, c4, c5, c6, c7, c8, c9, c10, c11, c12, c13, c14, c15, c16, c17, c18, c19, c20, c21, c22, c23, c24, c25, c26, c27, c28, c29, c30, c31, c32, c33, c34, c35].drop 35).take (Try.prog.cellsOf 4) = [.bool n13] := e13
    rw [k13] at e13'
    have f35 : c35 = .bool n13 := by simpa using e13'
    have b0 : 0 ≤ n0 ∧ n0 ≤ 255 := wf_u8q w0
    have b1 : 0 ≤ n1 ∧ n1 ≤ 255 := wf_u8q w1
    have b3 : 0 ≤ n3 ∧ n3 ≤ 255 := wf_u8q w3
    have b4 : 0 ≤ n4 ∧ n4 ≤ 255 := wf_u8q w4
    have b6 : 0 ≤ n6 ∧ n6 ≤ 255 := wf_u8q w6
    have b7 : 0 ≤ n7 ∧ n7 ≤ 4294967295 := wf_u32 w7
    have b8 : 0 ≤ n8 ∧ n8 ≤ 4294967295 := wf_u32 w8
    have b9 : 0 ≤ n9 ∧ n9 ≤ 4294967295 := wf_u32 w9
    have b10 : 0 ≤ n10 ∧ n10 ≤ 65535 := wf_u16 w10
    have b11 : 0 ≤ n11 ∧ n11 ≤ 65535 := wf_u16 w11
    refine ⟨⟨n0.toNat, n1.toNat, tx, n3.toNat, n4.toNat, t5, d5, h5, n6.toNat, n7.toNat, n8.toNat, n9.toNat, n10.toNat, n11.toNat, rr, n13⟩, ta, tb, ra, rb, ?_, tsa, tsb, rsa, rsb, ⟨by dsimp only; omega, by dsimp only; omega, by dsimp only; omega, by dsimp only; omega, by dsimp only; omega, by dsimp only; omega, by dsimp only; omega, by dsimp only; omega, by dsimp only; omega, by dsimp only; omega, tv, tk, wt5, wd5, wh5, rok⟩⟩
    unfold smlCells
    dsimp only
    rw [f0, f1, f2, f3, f4, f5, f6, f7, f8, f9, f10, f11, f12, f13, f14, f15, f16, f17, f18, f19, f20, f21, f22, f23, f24, f25, f26, f27, f28, f29, f30, f31, f32, f33, f34, f35, show ((n0.toNat : Nat) : Int) = n0 by omega, show ((n1.toNat : Nat) : Int) = n1 by omega, show ((n3.toNat : Nat) : Int) = n3 by omega, show ((n4.toNat : Nat) : Int) = n4 by omega, show ((n6.toNat : Nat) : Int) = n6 by omega, show ((n7.toNat : Nat) : Int) = n7 by omega, show ((n8.toNat : Nat) : Int) = n8 by omega, show ((n9.toNat : Nat) : Int) = n9 by omega, show ((n10.toNat : Nat) : Int) = n10 by omega, show ((n11.toNat : Nat) : Int) = n11 by omega]
end
set_option maxRecDepth 100000 in
theorem open_sml {H : Type} {enc : TypeId × Value → H} {w : World} {v : Value} {d : DataW H} {ps : List MemPlace} (hv : Value.okWide Try.prog w .any 0 40 v) (h : DataW.Trod enc Try.prog w 0 (fun _ => true) true 40 v d ps) :
    ∃ z va vb vc vd, v = .agg (smlCells z va vb vc vd).toArray ∧ SlAt rpIn w va z.tx.ins ∧ SlAt rpOut w vb z.tx.outs ∧ SlAt rpIn w vc z.raw.tx.ins ∧ SlAt rpOut w vd z.raw.tx.outs ∧ z.Ok := by
  obtain ⟨cs, rfl, -⟩ := Go.WideShapes.okWide_struct Try.underlying40 hv
  obtain ⟨fuel, hf⟩ := h
  obtain ⟨x, va, vb, vc, vd, hx, h1, h2, h3, h4, ho⟩ := rp_of_small hf
  refine ⟨x, va, vb, vc, vd, ?_, h1, h2, h3, h4, ho⟩
  simp only [Value.cells] at hx
  rw [show cs = (smlCells x va vb vc vd).toArray from by apply Array.ext'; exact hx]
end Go.Proofs.Ytaooibocknemkaa
end

section
/-
  kedgeref26.Make. Conditions: the small record lies in memory.
-/
namespace Go.Proofs.Ytaooibocknemkaa
open Go.RowKit Go.BigFrame
set_option linter.unusedVariables false
set_option linter.unusedSimpArgs false
def MakeIs (w : World) (e : Ending) (w' : World) : Prop := ∃ v r, e = .returned v ∧ RecOwn w.heap.size w' v r ∧ r.tx.outs.length ≤ 1000 ∧ Below w.heap.size w w'
theorem range_of {w : World} {b : Nat} {t : TypeId} (pre cs post : List Value) (h : w.heap[b]? = some (.cells (pre ++ (cs ++ post)).toArray t (0, 0))) : w.rangeAt b pre.length cs := by
  intro j v hj
  rw [cell_at h]
  have hl := (List.getElem?_eq_some_iff.1 hj).1
  rw [List.getElem?_toArray, List.getElem?_append_right (by omega), List.getElem?_append_left (by omega), show pre.length + j - pre.length = j by omega]
  exact hj
set_option maxRecDepth 100000 in
set_option maxHeartbeats 8000000 in
theorem rmake_odd (z : PSml) (va vb vc vd : Value) (w : World) (h1 : SlAt rpIn w va z.tx.ins) (h2 : SlAt rpOut w vb z.tx.outs) (h3 : SlAt rpIn w vc z.raw.tx.ins) (h4 : SlAt rpOut w vd z.raw.tx.outs) (hk : z.Ok) (ho : z.odd = true) :
    Calls Try.prog 10 #[.agg #[.int .u8 z.kind, .int .u8 z.num, .int .u32 z.tx.ver, va, vb, .int .u32 z.tx.lock, .int .u8 z.index, .int .u8 z.br, .int .u16 z.tag, .int .u16 z.delay, .int .u32 z.height, .int .u8 z.point, .int .u32 z.val, .int .u32 z.budget, .int .u32 z.fee, .int .u16 z.dead, .int .u16 z.start, .int .i64 z.raw.kind, .int .i64 z.raw.num, .int .u32 z.raw.tx.ver, vc, vd, .int .u32 z.raw.tx.lock, .int .i64 z.raw.index, .string z.raw.id, .int .u32 z.raw.idx, .int .i64 z.raw.val, .int .i64 z.raw.br, .int .u16 z.raw.tag, .int .u16 z.raw.delay, .int .u32 z.raw.height, .int .i64 z.raw.dead, .int .i64 z.raw.budget, .int .i64 z.raw.start, .int .i64 z.raw.fee, .bool z.odd]] w (MakeIs w) := by
  rw [ho]
  have HT := Lib.hid (show TxAt w (.agg #[.int .u32 z.raw.tx.ver, vc, vd, .int .u32 z.raw.tx.lock]) z.raw.tx from ⟨vc, vd, rfl, h3, h4, hk.raw.ver, hk.raw.lock⟩)
  have HK := Lib.hid hk
  obtain ⟨ia, ic, rfl, -, -⟩ := h1.shape
  obtain ⟨oa, oc, rfl, -, -⟩ := h2.shape
  obtain ⟨ja, jc, rfl, -, -⟩ := h3.shape
  obtain ⟨qa, qc, rfl, -, -⟩ := h4.shape
  obtain ⟨n1, hn1⟩ : ∃ n, n = z.tx.ins.length := ⟨_, rfl⟩
  obtain ⟨n2, hn2⟩ : ∃ n, n = z.tx.outs.length := ⟨_, rfl⟩
  obtain ⟨n3, hn3⟩ : ∃ n, n = z.raw.tx.ins.length := ⟨_, rfl⟩
  obtain ⟨n4, hn4⟩ : ∃ n, n = z.raw.tx.outs.length := ⟨_, rfl⟩
  rw [← hn1, ← hn2, ← hn3, ← hn4]
  rw [← hn3, ← hn4] at HT
  clear hn1 hn2 hn3 hn4 h1 h2 h3 h4 hk ho
  go_enter Try.func10, Try.ntmps10
  go_upto_region 1 with fail
  obtain ⟨X, hX⟩ : ∃ q, q = w.heap.size := ⟨_, rfl⟩
  have hnews := new2 w X hX (.cells #[.int .u8 z.kind, .int .u8 z.num, .int .u32 z.tx.ver, .slice ia n1 ic, .slice oa n2 oc, .int .u32 z.tx.lock, .int .u8 z.index, .int .u8 z.br, .int .u16 z.tag, .int .u16 z.delay, .int .u32 z.height, .int .u8 z.point, .int .u32 z.val, .int .u32 z.budget, .int .u32 z.fee, .int .u16 z.dead, .int .u16 z.start, .int .i64 z.raw.kind, .int .i64 z.raw.num, .int .u32 z.raw.tx.ver, .slice ja n3 jc, .slice qa n4 qc, .int .u32 z.raw.tx.lock, .int .i64 z.raw.index, .string z.raw.id, .int .u32 z.raw.idx, .int .i64 z.raw.val, .int .i64 z.raw.br, .int .u16 z.raw.tag, .int .u16 z.raw.delay, .int .u32 z.raw.height, .int .i64 z.raw.dead, .int .i64 z.raw.budget, .int .i64 z.raw.start, .int .i64 z.raw.fee, .bool true] 40) (.cells #[.int .i64 0, .int .i64 0, .int .u32 0, .slice none 0 0, .slice none 0 0, .int .u32 0, .int .i64 0, .string ⟨#[]⟩, .int .u32 0, .int .i64 0, .int .i64 0, .int .u16 0, .int .u16 0, .int .u32 0, .int .i64 0, .int .i64 0, .int .i64 0, .int .i64 0] 38)
  rw [← hX]
  generalize ((w.alloc (.cells #[.int .u8 z.kind, .int .u8 z.num, .int .u32 z.tx.ver, .slice ia n1 ic, .slice oa n2 oc, .int .u32 z.tx.lock, .int .u8 z.index, .int .u8 z.br, .int .u16 z.tag, .int .u16 z.delay, .int .u32 z.height, .int .u8 z.point, .int .u32 z.val, .int .u32 z.budget, .int .u32 z.fee, .int .u16 z.dead, .int .u16 z.start, .int .i64 z.raw.kind, .int .i64 z.raw.num, .int .u32 z.raw.tx.ver, .slice ja n3 jc, .slice qa n4 qc, .int .u32 z.raw.tx.lock, .int .i64 z.raw.index, .string z.raw.id, .int .u32 z.raw.idx, .int .i64 z.raw.val, .int .i64 z.raw.br, .int .u16 z.raw.tag, .int .u16 z.raw.delay, .int .u32 z.raw.height, .int .i64 z.raw.dead, .int .i64 z.raw.budget, .int .i64 z.raw.start, .int .i64 z.raw.fee, .bool true] 40)).alloc (.cells #[.int .i64 0, .int .i64 0, .int .u32 0, .slice none 0 0, .slice none 0 0, .int .u32 0, .int .i64 0, .string ⟨#[]⟩, .int .u32 0, .int .i64 0, .int .i64 0, .int .u16 0, .int .u16 0, .int .u32 0, .int .i64 0, .int .i64 0, .int .i64 0, .int .i64 0] 38)) = w0 at *
  obtain ⟨hz0, hz1, hal⟩ := hnews
  have HZ0 := Lib.hid hz0
  have HZ1 := Lib.hid hz1
  have HB := Lib.hid hal
  have HX := Lib.hid hX
  have HT := Lib.hid (HT.out.below hal)
  have x35 : w0.cell? ⟨X, 35, none⟩ = some (.bool true) := cell_at hz0
  have HRG := Lib.hid (show w0.rangeAt X 17 [.int .i64 z.raw.kind, .int .i64 z.raw.num, .int .u32 z.raw.tx.ver, .slice ja n3 jc, .slice qa n4 qc, .int .u32 z.raw.tx.lock, .int .i64 z.raw.index, .string z.raw.id, .int .u32 z.raw.idx, .int .i64 z.raw.val, .int .i64 z.raw.br, .int .u16 z.raw.tag, .int .u16 z.raw.delay, .int .u32 z.raw.height, .int .i64 z.raw.dead, .int .i64 z.raw.budget, .int .i64 z.raw.start, .int .i64 z.raw.fee] from range_of [.int .u8 z.kind, .int .u8 z.num, .int .u32 z.tx.ver, .slice ia n1 ic, .slice oa n2 oc, .int .u32 z.tx.lock, .int .u8 z.index, .int .u8 z.br, .int .u16 z.tag, .int .u16 z.delay, .int .u32 z.height, .int .u8 z.point, .int .u32 z.val, .int .u32 z.budget, .int .u32 z.fee, .int .u16 z.dead, .int .u16 z.start] [.int .i64 z.raw.kind, .int .i64 z.raw.num, .int .u32 z.raw.tx.ver, .slice ja n3 jc, .slice qa n4 qc, .int .u32 z.raw.tx.lock, .int .i64 z.raw.index, .string z.raw.id, .int .u32 z.raw.idx, .int .i64 z.raw.val, .int .i64 z.raw.br, .int .u16 z.raw.tag, .int .u16 z.raw.delay, .int .u32 z.raw.height, .int .i64 z.raw.dead, .int .i64 z.raw.budget, .int .i64 z.raw.start, .int .i64 z.raw.fee] [.bool true] hz0)
  have HNW := Lib.hid (heap_alloc_new w0 (.cells #[.int .i64 0, .int .i64 0, .int .u32 0, .slice none 0 0, .slice none 0 0, .int .u32 0, .int .i64 0, .string ⟨#[]⟩, .int .u32 0, .int .i64 0, .int .i64 0, .int .u16 0, .int .u16 0, .int .u32 0, .int .i64 0, .int .i64 0, .int .i64 0, .int .i64 0] 38))
  have HNR := Lib.hid (setRow_heap (w0.alloc (.cells #[.int .i64 0, .int .i64 0, .int .u32 0, .slice none 0 0, .slice none 0 0, .int .u32 0, .int .i64 0, .string ⟨#[]⟩, .int .u32 0, .int .i64 0, .int .i64 0, .int .u16 0, .int .u16 0, .int .u32 0, .int .i64 0, .int .i64 0, .int .i64 0, .int .i64 0] 38)) w0.heap.size _ #[.int .i64 z.raw.kind, .int .i64 z.raw.num, .int .u32 z.raw.tx.ver, .slice ja n3 jc, .slice qa n4 qc, .int .u32 z.raw.tx.lock, .int .i64 z.raw.index, .string z.raw.id, .int .u32 z.raw.idx, .int .i64 z.raw.val, .int .i64 z.raw.br, .int .u16 z.raw.tag, .int .u16 z.raw.delay, .int .u32 z.raw.height, .int .i64 z.raw.dead, .int .i64 z.raw.budget, .int .i64 z.raw.start, .int .i64 z.raw.fee] _ _ HNW.out)
  have HAL := Lib.hid (show Below w0.heap.size w0 ((w0.alloc (.cells #[.int .i64 0, .int .i64 0, .int .u32 0, .slice none 0 0, .slice none 0 0, .int .u32 0, .int .i64 0, .string ⟨#[]⟩, .int .u32 0, .int .i64 0, .int .i64 0, .int .u16 0, .int .u16 0, .int .u32 0, .int .i64 0, .int .i64 0, .int .i64 0, .int .i64 0] 38)).setRow w0.heap.size #[.int .i64 z.raw.kind, .int .i64 z.raw.num, .int .u32 z.raw.tx.ver, .slice ja n3 jc, .slice qa n4 qc, .int .u32 z.raw.tx.lock, .int .i64 z.raw.index, .string z.raw.id, .int .u32 z.raw.idx, .int .i64 z.raw.val, .int .i64 z.raw.br, .int .u16 z.raw.tag, .int .u16 z.raw.delay, .int .u32 z.raw.height, .int .i64 z.raw.dead, .int .i64 z.raw.budget, .int .i64 z.raw.start, .int .i64 z.raw.fee]) from below_rowE ((Below.refl _ _).alloc (Nat.le_refl _) _) (Nat.le_refl _) _)
  clear hz0 hz1 hal hX
  go_upto_region 2 with fail
  clear x35
  go_upto_region 3 with (first | (refine wpList_load_mid rfl 38 (.tmp 7) rfl X 17 rfl [.int .i64 z.raw.kind, .int .i64 z.raw.num, .int .u32 z.raw.tx.ver, .slice ja n3 jc, .slice qa n4 qc, .int .u32 z.raw.tx.lock, .int .i64 z.raw.index, .string z.raw.id, .int .u32 z.raw.idx, .int .i64 z.raw.val, .int .i64 z.raw.br, .int .u16 z.raw.tag, .int .u16 z.raw.delay, .int .u32 z.raw.height, .int .i64 z.raw.dead, .int .i64 z.raw.budget, .int .i64 z.raw.start, .int .i64 z.raw.fee] _ HRG.out Try.underlying38 rfl (by kernel_rfl) ?_) | (refine wpList_store_row rfl 38 (.tmp 3) (.tmp 8) rfl w0.heap.size #[.int .i64 z.raw.kind, .int .i64 z.raw.num, .int .u32 z.raw.tx.ver, .slice ja n3 jc, .slice qa n4 qc, .int .u32 z.raw.tx.lock, .int .i64 z.raw.index, .string z.raw.id, .int .u32 z.raw.idx, .int .i64 z.raw.val, .int .i64 z.raw.br, .int .u16 z.raw.tag, .int .u16 z.raw.delay, .int .u32 z.raw.height, .int .i64 z.raw.dead, .int .i64 z.raw.budget, .int .i64 z.raw.start, .int .i64 z.raw.fee] rfl rfl 38 _ HNW.out (by kernel_rfl) rfl (by kernel_rfl) ?_))
  clear HNW HRG
  obtain ⟨V, hV⟩ : ∃ q, q = w0.heap.size := ⟨_, rfl⟩
  rw [← hV]
  have hz := HNR.out
  have hal := HAL.out
  clear HNR HAL
  rw [← hV] at hz hal
  generalize (w0.alloc (.cells #[.int .i64 0, .int .i64 0, .int .u32 0, .slice none 0 0, .slice none 0 0, .int .u32 0, .int .i64 0, .string ⟨#[]⟩, .int .u32 0, .int .i64 0, .int .i64 0, .int .u16 0, .int .u16 0, .int .u32 0, .int .i64 0, .int .i64 0, .int .i64 0, .int .i64 0] 38)).setRow V #[.int .i64 z.raw.kind, .int .i64 z.raw.num, .int .u32 z.raw.tx.ver, .slice ja n3 jc, .slice qa n4 qc, .int .u32 z.raw.tx.lock, .int .i64 z.raw.index, .string z.raw.id, .int .u32 z.raw.idx, .int .i64 z.raw.val, .int .i64 z.raw.br, .int .u16 z.raw.tag, .int .u16 z.raw.delay, .int .u32 z.raw.height, .int .i64 z.raw.dead, .int .i64 z.raw.budget, .int .i64 z.raw.start, .int .i64 z.raw.fee] = w1 at *
  rw [hV] at hal
  have HV := Lib.hid hz
  have HVX := Lib.hid (show X + 1 < V from by have := (Array.getElem?_eq_some_iff.1 HZ1.out).1; omega)
  have HZ1 := Lib.hid ((hal.block (X + 1) (Array.getElem?_eq_some_iff.1 HZ1.out).1).trans HZ1.out)
  have HB := Lib.hid (HB.out.trans (hal.mono HB.out.size))
  have HT := Lib.hid (HT.out.below hal)
  have c2 : w1.cell? ⟨V, 2, none⟩ = some (.int .u32 z.raw.tx.ver) := cell_at hz
  have c3 : w1.cell? ⟨V, 3, none⟩ = some (.slice ja n3 jc) := cell_at hz
  have c4 : w1.cell? ⟨V, 4, none⟩ = some (.slice qa n4 qc) := cell_at hz
  have c5 : w1.cell? ⟨V, 5, none⟩ = some (.int .u32 z.raw.tx.lock) := cell_at hz
  clear hz hal hV HZ0
  go_wp2_with fail
  refine (cut_any _ z.raw.tx 4 w1 HT.out (by omega)).mono ?_
  rintro e w2 ⟨v, rfl, hown, hb⟩
  clear c2 c3 c4 c5 HT
  have HSW := Lib.hid HB.out.size
  have HVL := Lib.hid (show V < w1.heap.size from (Array.getElem?_eq_some_iff.1 HV.out).1)
  have HV := Lib.hid ((hb.block V (Array.getElem?_eq_some_iff.1 HV.out).1).trans HV.out)
  have HZ1 := Lib.hid ((hb.block (X + 1) (Array.getElem?_eq_some_iff.1 HZ1.out).1).trans HZ1.out)
  have HB := Lib.hid (HB.out.trans (hb.mono HB.out.size))
  have hct : (cutTx 4 z.raw.tx).outs.length ≤ 1000 := by show ((z.raw.tx.outs.take 4).map cutOut).length ≤ 1000; rw [List.length_map, List.length_take]; omega
  obtain ⟨ct, hcte⟩ : ∃ t, t = cutTx 4 z.raw.tx := ⟨_, rfl⟩
  rw [← hcte] at hown hct
  have HCT := Lib.hid hct
  clear hcte hb hct
  obtain ⟨ta, tb, rfl, hta, htb, -, -⟩ := hown.tx
  have HO := Lib.hid hown
  obtain ⟨iA, iC, rfl, -, -⟩ := hta.shape
  obtain ⟨oA, oC, rfl, -, -⟩ := htb.shape
  obtain ⟨m1, hm1⟩ : ∃ q, q = ct.ins.length := ⟨_, rfl⟩
  obtain ⟨m2, hm2⟩ : ∃ q, q = ct.outs.length := ⟨_, rfl⟩
  rw [← hm1, ← hm2] at HO
  rw [← hm1, ← hm2]
  clear hown hta htb hm1 hm2
  have c2 : w2.cell? ⟨V, 2, none⟩ = some (.int .u32 z.raw.tx.ver) := cell_at HV.out
  have f2 : w2.frozen? ⟨V, 2, none⟩ = false := free_at HV.out
  have c3 : w2.cell? ⟨V, 3, none⟩ = some (.slice ja n3 jc) := cell_at HV.out
  have f3 : w2.frozen? ⟨V, 3, none⟩ = false := free_at HV.out
  have c4 : w2.cell? ⟨V, 4, none⟩ = some (.slice qa n4 qc) := cell_at HV.out
  have f4 : w2.frozen? ⟨V, 4, none⟩ = false := free_at HV.out
  have c5 : w2.cell? ⟨V, 5, none⟩ = some (.int .u32 z.raw.tx.lock) := cell_at HV.out
  have f5 : w2.frozen? ⟨V, 5, none⟩ = false := free_at HV.out
  go_upto_region 4 with fail
  change Code.wp _ _ _ _ (stores w2 V [(2, .int .u32 ct.ver), (3, .slice iA m1 iC), (4, .slice oA m2 oC), (5, .int .u32 ct.lock)])
  obtain ⟨s1, s2, s3⟩ := stores_spec [(2, .int .u32 ct.ver), (3, .slice iA m1 iC), (4, .slice oA m2 oC), (5, .int .u32 ct.lock)] HV.out
  have HV := Lib.hid (show (stores w2 V [(2, .int .u32 ct.ver), (3, .slice iA m1 iC), (4, .slice oA m2 oC), (5, .int .u32 ct.lock)]).heap[V]? = some (.cells #[.int .i64 z.raw.kind, .int .i64 z.raw.num, .int .u32 ct.ver, .slice iA m1 iC, .slice oA m2 oC, .int .u32 ct.lock, .int .i64 z.raw.index, .string z.raw.id, .int .u32 z.raw.idx, .int .i64 z.raw.val, .int .i64 z.raw.br, .int .u16 z.raw.tag, .int .u16 z.raw.delay, .int .u32 z.raw.height, .int .i64 z.raw.dead, .int .i64 z.raw.budget, .int .i64 z.raw.start, .int .i64 z.raw.fee] 38 (0, 0)) from s1)
  have HZ1 := Lib.hid ((s2 (X + 1) (by have := HVX.out; omega)).trans HZ1.out)
  have HB := Lib.hid (HB.out.trans (s3 w.heap.size (by have := HX.out; have := HVX.out; omega)))
  have HF := Lib.hid (stores_fr (b := V) (F := [V, X + 1]) (by simp) [(2, .int .u32 ct.ver), (3, .slice iA m1 iC), (4, .slice oA m2 oC), (5, .int .u32 ct.lock)] w2)
  clear s1 s2 s3 c2 f2 c3 f3 c4 f4 c5 f5
  generalize stores w2 V [(2, .int .u32 ct.ver), (3, .slice iA m1 iC), (4, .slice oA m2 oC), (5, .int .u32 ct.lock)] = w3 at *
  have c7 : w3.cell? ⟨V, 7, none⟩ = some (.string z.raw.id) := cell_at HV.out
  have f7 : w3.frozen? ⟨V, 7, none⟩ = false := free_at HV.out
  have hid : z.raw.id.size ≤ 9223372036854775807 := HK.out.raw.id
  by_cases hbig : (40 : Int) < (z.raw.id.size : Int)
  · have h40 : (40 : Int) ≤ (z.raw.id.size : Int) := by omega
    obtain ⟨s1, s2, s3⟩ := stores_spec [(7, .string (z.raw.id.extract 0 40))] HV.out
    have HV := Lib.hid (show (stores w3 V [(7, .string (z.raw.id.extract 0 40))]).heap[V]? = some (.cells #[.int .i64 z.raw.kind, .int .i64 z.raw.num, .int .u32 ct.ver, .slice iA m1 iC, .slice oA m2 oC, .int .u32 ct.lock, .int .i64 z.raw.index, .string (z.raw.id.extract 0 40), .int .u32 z.raw.idx, .int .i64 z.raw.val, .int .i64 z.raw.br, .int .u16 z.raw.tag, .int .u16 z.raw.delay, .int .u32 z.raw.height, .int .i64 z.raw.dead, .int .i64 z.raw.budget, .int .i64 z.raw.start, .int .i64 z.raw.fee] 38 (0, 0)) from s1)
    have HZ1 := Lib.hid ((s2 (X + 1) (by have := HVX.out; omega)).trans HZ1.out)
    have HB := Lib.hid (HB.out.trans (s3 w.heap.size (by have := HX.out; have := HVX.out; omega)))
    have HF := Lib.hid (HF.out.trans' (stores_fr (b := V) (F := [V, X + 1]) (by simp) [(7, .string (z.raw.id.extract 0 40))] w3))
    clear s1 s2 s3
    go_upto_region 6 with fail
    change Code.wp _ _ _ _ (stores w3 V [(7, .string (z.raw.id.extract 0 40))])
    generalize stores w3 V [(7, .string (z.raw.id.extract 0 40))] = w4 at *
    clear c7 f7
    go_wp2_with (first | (refine wpList_load_row rfl 38 (.tmp 3) rfl V rfl 38 #[.int .i64 z.raw.kind, .int .i64 z.raw.num, .int .u32 ct.ver, .slice iA m1 iC, .slice oA m2 oC, .int .u32 ct.lock, .int .i64 z.raw.index, .string (z.raw.id.extract 0 40), .int .u32 z.raw.idx, .int .i64 z.raw.val, .int .i64 z.raw.br, .int .u16 z.raw.tag, .int .u16 z.raw.delay, .int .u32 z.raw.height, .int .i64 z.raw.dead, .int .i64 z.raw.budget, .int .i64 z.raw.start, .int .i64 z.raw.fee] (0, 0) _ HV.out Try.underlying38 rfl (by kernel_rfl) ?_) | (refine wpList_store_row rfl 38 (.tmp 2) (.tmp 27) rfl (X + 1) #[.int .i64 z.raw.kind, .int .i64 z.raw.num, .int .u32 ct.ver, .slice iA m1 iC, .slice oA m2 oC, .int .u32 ct.lock, .int .i64 z.raw.index, .string (z.raw.id.extract 0 40), .int .u32 z.raw.idx, .int .i64 z.raw.val, .int .i64 z.raw.br, .int .u16 z.raw.tag, .int .u16 z.raw.delay, .int .u32 z.raw.height, .int .i64 z.raw.dead, .int .i64 z.raw.budget, .int .i64 z.raw.start, .int .i64 z.raw.fee] rfl rfl 38 _ HZ1.out (by kernel_rfl) rfl (by kernel_rfl) ?_))
    refine bodyPost_ret (v := .agg #[.int .i64 z.raw.kind, .int .i64 z.raw.num, .int .u32 ct.ver, .slice iA m1 iC, .slice oA m2 oC, .int .u32 ct.lock, .int .i64 z.raw.index, .string (z.raw.id.extract 0 40), .int .u32 z.raw.idx, .int .i64 z.raw.val, .int .i64 z.raw.br, .int .u16 z.raw.tag, .int .u16 z.raw.delay, .int .u32 z.raw.height, .int .i64 z.raw.dead, .int .i64 z.raw.budget, .int .i64 z.raw.start, .int .i64 z.raw.fee]) (results_cell1 (P := Try.prog) (p := 2) (ty := 38) Try.results10 _ _ (X + 1) 38 #[.int .i64 z.raw.kind, .int .i64 z.raw.num, .int .u32 ct.ver, .slice iA m1 iC, .slice oA m2 oC, .int .u32 ct.lock, .int .i64 z.raw.index, .string (z.raw.id.extract 0 40), .int .u32 z.raw.idx, .int .i64 z.raw.val, .int .i64 z.raw.br, .int .u16 z.raw.tag, .int .u16 z.raw.delay, .int .u32 z.raw.height, .int .i64 z.raw.dead, .int .i64 z.raw.budget, .int .i64 z.raw.start, .int .i64 z.raw.fee] (0, 0) _ rfl (setRow_heap _ (X + 1) _ _ _ _ HZ1.out) Try.underlying38 rfl (by kernel_rfl)) rfl ?_
    have hfr := HF.out.trans' (Fr.row (F := [V, X + 1]) w4 (X + 1) #[.int .i64 z.raw.kind, .int .i64 z.raw.num, .int .u32 ct.ver, .slice iA m1 iC, .slice oA m2 oC, .int .u32 ct.lock, .int .i64 z.raw.index, .string (z.raw.id.extract 0 40), .int .u32 z.raw.idx, .int .i64 z.raw.val, .int .i64 z.raw.br, .int .u16 z.raw.tag, .int .u16 z.raw.delay, .int .u32 z.raw.height, .int .i64 z.raw.dead, .int .i64 z.raw.budget, .int .i64 z.raw.start, .int .i64 z.raw.fee] (by simp))
    have hown := HO.out.fr hfr (by intro j hj; simp at hj; have := HVL.out; have := HVX.out; omega)
    have hk := HK.out.raw
    refine ⟨_, { z.raw with tx := ct, id := z.raw.id.extract 0 40 }, rfl, ⟨_, _, rfl, hown.base HSW.out, ⟨hk.kind, hk.num, HO.out.ver, HO.out.lock, hk.index, by show (ByteArray.extract _ _ _).size ≤ _; rw [ByteArray.size_extract]; omega, hk.idx, hk.val, hk.br, hk.tag, hk.delay, hk.height, hk.dead, hk.budget, hk.start, hk.fee⟩⟩, HCT.out, below_rowE HB.out (by have := HX.out; omega) _⟩
  · clear f7
    go_upto_region 6 with fail
    clear c7
    go_wp2_with (first | (refine wpList_load_row rfl 38 (.tmp 3) rfl V rfl 38 #[.int .i64 z.raw.kind, .int .i64 z.raw.num, .int .u32 ct.ver, .slice iA m1 iC, .slice oA m2 oC, .int .u32 ct.lock, .int .i64 z.raw.index, .string z.raw.id, .int .u32 z.raw.idx, .int .i64 z.raw.val, .int .i64 z.raw.br, .int .u16 z.raw.tag, .int .u16 z.raw.delay, .int .u32 z.raw.height, .int .i64 z.raw.dead, .int .i64 z.raw.budget, .int .i64 z.raw.start, .int .i64 z.raw.fee] (0, 0) _ HV.out Try.underlying38 rfl (by kernel_rfl) ?_) | (refine wpList_store_row rfl 38 (.tmp 2) (.tmp 27) rfl (X + 1) #[.int .i64 z.raw.kind, .int .i64 z.raw.num, .int .u32 ct.ver, .slice iA m1 iC, .slice oA m2 oC, .int .u32 ct.lock, .int .i64 z.raw.index, .string z.raw.id, .int .u32 z.raw.idx, .int .i64 z.raw.val, .int .i64 z.raw.br, .int .u16 z.raw.tag, .int .u16 z.raw.delay, .int .u32 z.raw.height, .int .i64 z.raw.dead, .int .i64 z.raw.budget, .int .i64 z.raw.start, .int .i64 z.raw.fee] rfl rfl 38 _ HZ1.out (by kernel_rfl) rfl (by kernel_rfl) ?_))
    refine bodyPost_ret (v := .agg #[.int .i64 z.raw.kind, .int .i64 z.raw.num, .int .u32 ct.ver, .slice iA m1 iC, .slice oA m2 oC, .int .u32 ct.lock, .int .i64 z.raw.index, .string z.raw.id, .int .u32 z.raw.idx, .int .i64 z.raw.val, .int .i64 z.raw.br, .int .u16 z.raw.tag, .int .u16 z.raw.delay, .int .u32 z.raw.height, .int .i64 z.raw.dead, .int .i64 z.raw.budget, .int .i64 z.raw.start, .int .i64 z.raw.fee]) (results_cell1 (P := Try.prog) (p := 2) (ty := 38) Try.results10 _ _ (X + 1) 38 #[.int .i64 z.raw.kind, .int .i64 z.raw.num, .int .u32 ct.ver, .slice iA m1 iC, .slice oA m2 oC, .int .u32 ct.lock, .int .i64 z.raw.index, .string z.raw.id, .int .u32 z.raw.idx, .int .i64 z.raw.val, .int .i64 z.raw.br, .int .u16 z.raw.tag, .int .u16 z.raw.delay, .int .u32 z.raw.height, .int .i64 z.raw.dead, .int .i64 z.raw.budget, .int .i64 z.raw.start, .int .i64 z.raw.fee] (0, 0) _ rfl (setRow_heap _ (X + 1) _ _ _ _ HZ1.out) Try.underlying38 rfl (by kernel_rfl)) rfl ?_
    have hfr := HF.out.trans' (Fr.row (F := [V, X + 1]) w3 (X + 1) #[.int .i64 z.raw.kind, .int .i64 z.raw.num, .int .u32 ct.ver, .slice iA m1 iC, .slice oA m2 oC, .int .u32 ct.lock, .int .i64 z.raw.index, .string z.raw.id, .int .u32 z.raw.idx, .int .i64 z.raw.val, .int .i64 z.raw.br, .int .u16 z.raw.tag, .int .u16 z.raw.delay, .int .u32 z.raw.height, .int .i64 z.raw.dead, .int .i64 z.raw.budget, .int .i64 z.raw.start, .int .i64 z.raw.fee] (by simp))
    have hown := HO.out.fr hfr (by intro j hj; simp at hj; have := HVL.out; have := HVX.out; omega)
    have hk := HK.out.raw
    refine ⟨_, { z.raw with tx := ct, id := z.raw.id }, rfl, ⟨_, _, rfl, hown.base HSW.out, ⟨hk.kind, hk.num, HO.out.ver, HO.out.lock, hk.index, hk.id, hk.idx, hk.val, hk.br, hk.tag, hk.delay, hk.height, hk.dead, hk.budget, hk.start, hk.fee⟩⟩, HCT.out, below_rowE HB.out (by have := HX.out; omega) _⟩
end Go.Proofs.Ytaooibocknemkaa
end

section
/-
  A region that draws its order: the first n operations make memory of their own, in any order, and one of them stores into a block that another made. Conditions: each theorem's own.
-/
namespace Go.Proofs.Ytaooibocknemkaa
open Go.RowKit Go.BigFrame
set_option linter.unusedVariables false
set_option linter.unusedSimpArgs false

/-- What holds of an operation's value and of the blocks from lo to hi; it stays while these blocks do. -/
structure SFact where
  p : Value → List Value → Nat → Nat → World → Prop
  mono : ∀ {v : Value} {d : List Value} {lo hi : Nat} {w w' : World}, (∀ b, lo ≤ b → b < hi → w'.heap[b]? = w.heap[b]?) → p v d lo hi w → p v d lo hi w'
def SFact.val (f : List Value → Value) : SFact := ⟨fun v d _ _ _ => v = f d, fun _ h => h⟩
def SFact.box (f : List Value → Obj) : SFact := ⟨fun v d lo hi w => ∃ b, lo ≤ b ∧ b < hi ∧ v = .pointer (some ⟨b, 0, none⟩) ∧ w.heap[b]? = some (f d), fun hk ⟨b, h1, h2, h3, h4⟩ => ⟨b, h1, h2, h3, (hk b h1 h2).trans h4⟩⟩
/-- The block that is made and stored into behind it. -/
def SFact.made (P : Prop) (x : Obj) : SFact := ⟨fun v _ lo hi w => ∃ b, lo ≤ b ∧ v = .pointer (some ⟨b, 0, none⟩) ∧ (¬ P → b < hi ∧ w.heap[b]? = some x), fun hk ⟨b, h1, h2, h3⟩ => ⟨b, h1, h2, fun hp => ⟨(h3 hp).1, (hk b h1 (h3 hp).1).trans (h3 hp).2⟩⟩⟩
/-- The store's own fact: the first value it waits for is the block's, the second is what it holds. -/
def SFact.stored (t : TypeId) : SFact := ⟨fun _ d lo hi w => ∃ b cs, lo ≤ b ∧ b < hi ∧ d.getD 0 undef = .pointer (some ⟨b, 0, none⟩) ∧ d.getD 1 undef = .agg cs ∧ w.heap[b]? = some (.cells cs t (0, 0)), fun hk ⟨b, cs, h1, h2, h3, h4, h5⟩ => ⟨b, cs, h1, h2, h3, h4, (hk b h1 h2).trans h5⟩⟩
def SFact.any : SFact := ⟨fun _ _ _ _ _ => True, fun _ _ => trivial⟩

structure MadeS (R : Prop → Nat → SFact) (s : Nat) (l : List Oper) (n : Nat) (w0 : World) (L : Nat → Prop) (xs : List Value) (lo hi : Nat → Nat) (w : World) : Prop where
  len : xs.length = n
  closed : ∀ j, L j → ∀ d, (deps l j).contains d = true → L d
  lt : ∀ j, L j → j < n
  bel : Below w0.heap.size w0 w
  rel : ∀ j, L j → (R (L s) j).p (xs.getD j undef) ((deps l j).map fun d => xs.getD d undef) (lo j) (hi j) w
  lohi : ∀ j, L j → w0.heap.size ≤ lo j ∧ lo j ≤ hi j ∧ hi j ≤ w.heap.size
  apart : ∀ i j, L i → L j → i ≠ j → hi i ≤ lo j ∨ hi j ≤ lo i

section
variable {P : Program} {R : Prop → Nat → SFact} {s : Nat} {l : List Oper} {n : Nat} {w0 w : World} {L : Nat → Prop} {xs : List Value} {lo hi : Nat → Nat}

theorem set_map {i : Nat} {v : Value} (hlen : xs.length = n) (hin : i < n) (hni : ¬ L i) (hcl : ∀ j, L j → ∀ d, (deps l j).contains d = true → L d) (hpre : ∀ d, (deps l i).contains d = true → L d) :
    (∀ j, L j → (xs.set i v).getD j undef = xs.getD j undef) ∧ (xs.set i v).getD i undef = v ∧ ∀ j, (j = i ∨ L j) → ((deps l j).map fun d => (xs.set i v).getD d undef) = (deps l j).map fun d => xs.getD d undef := by
  have hget : ∀ j, L j → (xs.set i v).getD j undef = xs.getD j undef := by
    intro j hj
    have hne : i ≠ j := fun e => hni (e ▸ hj)
    simp [List.getD, List.getElem?_set_ne hne]
  refine ⟨hget, ?_, ?_⟩
  · have : i < xs.length := by rw [hlen]; exact hin
    simp [List.getD, this]
  · intro j hj
    refine List.map_congr_left fun d hd => hget d ?_
    have hc : (deps l j).contains d = true := by simpa using hd
    rcases hj with rfl | hj
    · exact hpre d hc
    · exact hcl j hj d hc

/-- A value that is told by those it waits for: the kernel reckons which these are. -/
theorem MadeS.val (h : MadeS R s l n w0 L xs lo hi w) {j : Nat} (hj : L j) (f : List Value → Value) (hR : R (L s) j = SFact.val f) {x v : Value} (hx : xs.getD j undef = x) (hv : f ((deps l j).map fun d => xs.getD d undef) = v) : x = v := by
  have h1 := h.rel j hj
  rw [hR] at h1
  exact hx.symm.trans (h1.trans hv)
theorem MadeS.st (h : MadeS R s l n w0 L xs lo hi w) {j : Nat} (hj : L j) {t : TypeId} {x y : Value} (hR : R (L s) j = SFact.stored t) (hx : ((deps l j).map fun d => xs.getD d undef).getD 0 undef = x) (hy : ((deps l j).map fun d => xs.getD d undef).getD 1 undef = y) :
    ∃ b cs, lo j ≤ b ∧ b < hi j ∧ x = .pointer (some ⟨b, 0, none⟩) ∧ y = .agg cs ∧ w.heap[b]? = some (.cells cs t (0, 0)) := by
  have h1 := h.rel j hj
  rw [hR] at h1
  obtain ⟨b, cs, h2, h3, h4, h5, h6⟩ := h1
  exact ⟨b, cs, h2, h3, hx.symm.trans h4, hy.symm.trans h5, h6⟩
theorem MadeS.step (h : MadeS R s l n w0 L xs lo hi w) {i : Nat} (his : i ≠ s) (hin : i < n) (hni : ¬ L i) (hpre : ∀ d, (deps l i).contains d = true → L d) {v : Value} {w' : World}
    (hbel : Below w.heap.size w w') (hr : (R (L s) i).p v ((deps l i).map fun d => xs.getD d undef) w.heap.size w'.heap.size w') :
    MadeS R s l n w0 (fun j => j = i ∨ L j) (xs.set i v) (fun j => if j = i then w.heap.size else lo j) (fun j => if j = i then w'.heap.size else hi j) w' := by
  obtain ⟨hget, hself, hmap⟩ := set_map (v := v) h.len hin hni h.closed hpre
  have hsz := hbel.size
  have he : (s = i ∨ L s) = L s := propext ⟨fun h => h.elim (fun e => absurd e.symm his) id, .inr⟩
  refine ⟨by rw [List.length_set]; exact h.len, ?_, ?_, h.bel.trans (hbel.mono h.bel.size), ?_, ?_, ?_⟩
  · rintro j (rfl | hj) d hd
    · exact .inr (hpre d hd)
    · exact .inr (h.closed j hj d hd)
  · rintro j (rfl | hj)
    · exact hin
    · exact h.lt j hj
  · intro j hj
    rw [he]
    rcases hj with rfl | hj
    · rw [hself, hmap j (.inl rfl), if_pos rfl, if_pos rfl]
      exact hr
    · have hne : j ≠ i := fun e => hni (e ▸ hj)
      rw [hget j hj, hmap j (.inr hj), if_neg hne, if_neg hne]
      have h3 := h.lohi j hj
      exact (R (L s) j).mono (fun b _ h2 => hbel.block b (by omega)) (h.rel j hj)
  · rintro j (rfl | hj)
    · rw [if_pos rfl, if_pos rfl]
      exact ⟨h.bel.size, hsz, Nat.le_refl _⟩
    · have hne : j ≠ i := fun e => hni (e ▸ hj)
      rw [if_neg hne, if_neg hne]
      have := h.lohi j hj
      omega
  · rintro p q (rfl | hp) (rfl | hq) hpq
    · exact absurd rfl hpq
    · have hne : q ≠ p := fun e => hpq e.symm
      rw [if_pos rfl, if_pos rfl, if_neg hne, if_neg hne]
      exact .inr (h.lohi q hq).2.2
    · rw [if_pos rfl, if_pos rfl, if_neg hpq, if_neg hpq]
      exact .inl (h.lohi p hp).2.2
    · have h1 : p ≠ i := fun e => hni (e ▸ hp)
      have h2 : q ≠ i := fun e => hni (e ▸ hq)
      rw [if_neg h1, if_neg h1, if_neg h2, if_neg h2]
      exact h.apart p q hp hq hpq

/-- The store: the block that operation a made is from now on that of the store itself. -/
theorem MadeS.store (h : MadeS R s l n w0 L xs lo hi w) {a : Nat} (ha : L a) (hin : s < n) (hni : ¬ L s) (hpre : ∀ d, (deps l s).contains d = true → L d) {v : Value} {w' : World}
    (hR : ∀ j, j ≠ a → ∀ v d lo hi w, (R False j).p v d lo hi w → (R True j).p v d lo hi w)
    (hbel : Below w0.heap.size w0 w') (hsz : w'.heap.size = w.heap.size) (hout : ∀ b, ¬ (lo a ≤ b ∧ b < hi a) → w'.heap[b]? = w.heap[b]?)
    (hs : (R True s).p v ((deps l s).map fun d => xs.getD d undef) (lo a) (hi a) w') (hra : (R True a).p (xs.getD a undef) ((deps l a).map fun d => xs.getD d undef) (lo a) (lo a) w') :
    MadeS R s l n w0 (fun j => j = s ∨ L j) (xs.set s v) (fun j => if j = s then lo a else lo j) (fun j => if j = s then hi a else if j = a then lo a else hi j) w' := by
  obtain ⟨hget, hself, hmap⟩ := set_map (v := v) h.len hin hni h.closed hpre
  have he : (s = s ∨ L s) = True := propext ⟨fun _ => trivial, fun _ => .inl rfl⟩
  have hf : (L s) = False := propext ⟨hni, False.elim⟩
  have hla := h.lohi a ha
  refine ⟨by rw [List.length_set]; exact h.len, ?_, ?_, hbel, ?_, ?_, ?_⟩
  · rintro j (rfl | hj) d hd
    · exact .inr (hpre d hd)
    · exact .inr (h.closed j hj d hd)
  · rintro j (rfl | hj)
    · exact hin
    · exact h.lt j hj
  · intro j hj
    rw [he]
    rcases hj with rfl | hj
    · rw [hself, hmap j (.inl rfl), if_pos rfl, if_pos rfl]
      exact hs
    · have hne : j ≠ s := fun e => hni (e ▸ hj)
      rw [hget j hj, hmap j (.inr hj), if_neg hne, if_neg hne]
      by_cases hja : j = a
      · subst hja; rw [if_pos rfl]; exact hra
      · rw [if_neg hja]
        have h3 := h.rel j hj
        rw [hf] at h3
        have h4 := h.apart j a hj ha hja
        exact (R True j).mono (fun b h1 h2 => hout b (by omega)) (hR j hja _ _ _ _ _ h3)
  · rintro j (rfl | hj)
    · rw [if_pos rfl, if_pos rfl]
      omega
    · have hne : j ≠ s := fun e => hni (e ▸ hj)
      rw [if_neg hne, if_neg hne]
      have := h.lohi j hj
      split
      · rename_i e; subst e; omega
      · omega
  · have other : ∀ q, L q → q ≠ s → (hi a ≤ lo q ∨ (if q = a then lo a else hi q) ≤ lo a) := by
      intro q hq hqs
      by_cases e : q = a
      · rw [if_pos e]; omega
      · rw [if_neg e]
        have := h.apart q a hq ha e
        omega
    rintro p q (rfl | hp) (rfl | hq) hpq
    · exact absurd rfl hpq
    · have hne : q ≠ p := fun e => hpq e.symm
      rw [if_pos rfl, if_pos rfl, if_neg hne, if_neg hne]
      exact other q hq hne
    · rw [if_pos rfl, if_pos rfl, if_neg hpq, if_neg hpq]
      exact (other p hp hpq).symm
    · have h1 : p ≠ s := fun e => hni (e ▸ hp)
      have h2 : q ≠ s := fun e => hni (e ▸ hq)
      rw [if_neg h1, if_neg h1, if_neg h2, if_neg h2]
      have h3 := h.apart p q hp hq hpq
      have h4 := h.lohi p hp
      have h5 := h.lohi q hq
      split <;> split <;> (try subst_vars) <;> omega

theorem MadeS.start {a0 : Act} (hl : n ≤ l.length) (w : World) : MadeS R s l n w (fun _ => False) ((ownVals a0 l).take n) (fun _ => 0) (fun _ => 0) w.drew :=
  ⟨by simp [ownVals]; omega, fun _ h => h.elim, fun _ h => h.elim, ⟨rfl, rfl, rfl, Nat.le_refl _, fun _ _ => rfl⟩, fun _ h => h.elim, fun _ h => h.elim, fun _ _ h => h.elim⟩

/-- What is asked behind one operation. -/
def PostS (R : Prop → Nat → SFact) (s a : Nat) (l : List Oper) (w0 : World) (L : Nat → Prop) (xs : List Value) (lo hi : Nat → Nat) (w : World) (i : Nat) (v : Value) (w' : World) : Prop :=
  (i ≠ s ∧ Below w.heap.size w w' ∧ (R (L s) i).p v ((deps l i).map fun d => xs.getD d undef) w.heap.size w'.heap.size w') ∨
  (i = s ∧ L a ∧ Below w0.heap.size w0 w' ∧ w'.heap.size = w.heap.size ∧ (∀ b, ¬ (lo a ≤ b ∧ b < hi a) → w'.heap[b]? = w.heap[b]?) ∧ (R True s).p v ((deps l s).map fun d => xs.getD d undef) (lo a) (hi a) w' ∧ (R True a).p (xs.getD a undef) ((deps l a).map fun d => xs.getD d undef) (lo a) (lo a) w')
def StepOkS (P : Program) (R : Prop → Nat → SFact) (s a : Nat) (a0 : Act) (l : List Oper) (n : Nat) (w0 : World) (i : Nat) (o : Oper) : Prop :=
  ∀ (L : Nat → Prop) (xs : List Value) (lo hi : Nat → Nat) (w : World), MadeS R s l n w0 L xs lo hi w → ¬ L i → (∀ d, (deps l i).contains d = true → L d) →
    o.wp P (putAll a0 l xs) w (fun a' w' => ∃ v, a' = (putAll a0 l xs).put o.dst v ∧ PostS R s a l w0 L xs lo hi w i v w') (fun _ _ _ => False)

theorem wp_region_stored (R : Prop → Nat → SFact) (n s a : Nat) {id : Nat} {Q : Exit → Act → World → Prop} {a0 : Act} (hm : P.follows .mixedOrders = true) (hb : backB .any l.toArray = true)
    (hg : ((l.take n).all fun o => o.guard.isNone) = true) (hd : dstB l = true) (hn : n ≤ l.length) (ht : tailB l n = true) (hn0 : n ≠ 0)
    (hR : ∀ j, j ≠ a → ∀ v d lo hi w, (R False j).p v d lo hi w → (R True j).p v d lo hi w)
    (hstep : ∀ i o, i < n → l[i]? = some o → StepOkS P R s a a0 l n w0 i o)
    (hend : ∀ (xs : List Value) (lo hi : Nat → Nat) (w : World), MadeS R s l n w0 (fun j => j < n) xs lo hi w → wpList P l.toArray Q (l.drop n) (putAll a0 l xs) w) :
    (Code.region id l.toArray true).wp P Q a0 w0 := by
  refine wp_region_inv2 (fun L a w => (∃ xs lo hi, a = putAll a0 l xs ∧ MadeS R s l n w0 L xs lo hi w ∧ ¬ (∀ j, j < n → L j)) ∨ (∃ t, n ≤ t ∧ (L = fun j => j < t) ∧ wpList P l.toArray Q (l.drop t) a w)) hm hb ?_ ?_ ?_
  · have h0 : MadeS R s l n w0 (fun _ => False) ((ownVals a0 l).take n) (fun _ => 0) (fun _ => 0) w0.drew := MadeS.start hn w0
    exact .inl ⟨_, _, _, (putAll_own l a0 n).symm, h0, fun h => h 0 (by omega)⟩
  · rintro L i a1 w hil hni hpre hcase
    obtain ⟨o, ho⟩ : ∃ o, l[i]? = some o := ⟨_, List.getElem?_eq_getElem hil⟩
    have hoa : l.toArray[i]? = some o := by simpa using ho
    have hahead : n ≤ i → (∀ j, L j → ∀ d, (deps l j).contains d = true → L d) → ∀ j, j < i → L j := by
      intro hni' hcl
      have h1 := List.all_eq_true.1 ht (i - n) (List.mem_range.2 (by omega))
      rw [show n + (i - n) = i by omega] at h1
      exact ahead_all h1 hcl hpre
    rcases hcase with ⟨xs, lo, hi, rfl, hmd, hno⟩ | ⟨t, hnt, rfl, hwp⟩
    · by_cases hin : i < n
      · have hgo : o.guard = none := by
          have h1 : o ∈ l.take n := by
            rw [List.mem_iff_getElem?]
            exact ⟨i, by rw [List.getElem?_take_of_lt hin]; exact ho⟩
          have := List.all_eq_true.1 hg o h1
          simpa using this
        unfold wpOp
        rw [hoa]
        simp only [Region.wanted, hgo, if_true]
        refine .inl (wp_weaken ?_ (fun _ _ _ h => h.elim) (fun ⟨_, _, h⟩ => h.elim) (hstep i o hin ho L xs lo hi w hmd hni hpre))
        rintro a' w' ⟨v, rfl, hpost⟩
        obtain ⟨lo', hi', hmd'⟩ : ∃ lo' hi', MadeS R s l n w0 (fun j => j = i ∨ L j) (xs.set i v) lo' hi' w' := by
          rcases hpost with ⟨h1, h2, h3⟩ | ⟨h1, h2, h3, h4, h5, h6, h7⟩
          · exact ⟨_, _, hmd.step h1 hin hni hpre h2 h3⟩
          · subst h1
            exact ⟨_, _, hmd.store h2 hin hni hpre hR h3 h4 h5 h6 h7⟩
        rw [putAll_put l xs a0 i o v hd ho (by rw [hmd.len]; exact hin)]
        by_cases hall : ∀ j, j < n → (j = i ∨ L j)
        · refine .inr ⟨n, Nat.le_refl _, ?_, ?_⟩
          · funext j
            exact propext ⟨hmd'.lt j, hall j⟩
          · have he : (fun j => j = i ∨ L j) = fun j => j < n := by
              funext j
              exact propext ⟨hmd'.lt j, hall j⟩
            rw [he] at hmd'
            exact hend _ _ _ _ hmd'
        · exact .inl ⟨_, _, _, rfl, hmd', hall⟩
      · exact absurd (fun j hj => hahead (by omega) hmd.closed j (by omega)) hno
    · have hti : i = t := by
        have h1 : t ≤ i := Nat.le_of_not_lt hni
        rcases Nat.lt_or_ge t i with h2 | h2
        · have h3 := hahead (by omega) (fun j hj d hdj => by
            obtain ⟨q, hq⟩ : ∃ q, l[j]? = some q := ⟨_, List.getElem?_eq_getElem (by omega)⟩
            obtain ⟨e, e1, e2, rfl⟩ := deps_binds hq hdj
            have := back_spec hb (by simpa using hq) e e1 e2
            omega) t h2
          omega
        · omega
      subst hti
      have hdr : l.drop i = o :: l.drop (i + 1) := by
        rw [List.drop_eq_getElem_cons hil]
        congr 1
        obtain ⟨_, h2⟩ := List.getElem?_eq_some_iff.1 ho
        exact h2
      rw [hdr] at hwp
      have hset : (fun j => j = i ∨ j < i) = fun j => j < i + 1 := by
        funext j
        apply propext
        omega
      unfold wpOp
      rw [hoa]
      dsimp only
      unfold wpList at hwp
      split
      · rename_i hw
        rw [if_pos hw] at hwp
        rcases hwp with hwp | hwp
        · refine .inl (wp_weaken (fun a' w' hK => ?_) (fun _ _ _ h => h) (fun h => h) hwp)
          exact .inr ⟨i + 1, by omega, hset, hK⟩
        · exact .inr hwp
      · rename_i hw
        rw [if_neg hw] at hwp
        exact .inr ⟨i + 1, by omega, hset, hwp⟩
  · rintro L a w hall hcase
    rcases hcase with ⟨xs, lo, hi, rfl, hmd, hno⟩ | ⟨t, hnt, rfl, hwp⟩
    · exact absurd (fun j hj => hall j (by omega)) hno
    · have h1 : l.drop t = [] := by
        rw [List.drop_eq_nil_iff]
        rcases Nat.lt_or_ge t l.length with h2 | h2
        · have := hall t h2
          omega
        · exact h2
      rw [h1] at hwp
      exact hwp

theorem sstep_run {o : Oper} {a : Act} {w w' : World} {i k : Nat} (his : i ≠ s) (v : Value) (hrun : (execOp a.eval o).run P w = .ok (.value v) w') (hbel : Below w.heap.size w w')
    (hr : (R (L s) i).p v ((deps l i).map fun d => xs.getD d undef) w.heap.size w'.heap.size w') : o.wp P a w (fun a' w' => ∃ v, a' = a.put o.dst v ∧ PostS R s k l w0 L xs lo hi w i v w') (fun _ _ _ => False) :=
  opv_run hrun ⟨v, rfl, .inl ⟨his, hbel, hr⟩⟩
theorem sstep_pure {o : Oper} {a : Act} {w : World} {i k : Nat} (his : i ≠ s) (v : Value) (hrun : (execOp a.eval o).run P w = .ok (.value v) w)
    (hr : (R (L s) i).p v ((deps l i).map fun d => xs.getD d undef) w.heap.size w.heap.size w) : o.wp P a w (fun a' w' => ∃ v, a' = a.put o.dst v ∧ PostS R s k l w0 L xs lo hi w i v w') (fun _ _ _ => False) :=
  sstep_run his v hrun (Below.refl _ _) hr
theorem sstep_new {o : Oper} {a : Act} {w : World} {i k : Nat} (his : i ≠ s) (v : Value) (x : Obj) (hrun : (execOp a.eval o).run P w = .ok (.value v) (w.alloc x))
    (hr : (R (L s) i).p v ((deps l i).map fun d => xs.getD d undef) w.heap.size (w.alloc x).heap.size (w.alloc x)) : o.wp P a w (fun a' w' => ∃ v, a' = a.put o.dst v ∧ PostS R s k l w0 L xs lo hi w i v w') (fun _ _ _ => False) :=
  sstep_run his v hrun ((Below.refl _ _).alloc (Nat.le_refl _) _) hr
theorem sstep_call {o : Oper} {a : Act} {w : World} {i k : Nat} (his : i ≠ s) {f : FuncId} {args : Array Value} {E : Ending → World → Prop} (hc : Calls P f args w E) (hrun : (execOp a.eval o).run P w = .ok (.enter f args) w)
    (hK : ∀ e w', E e w' → ∃ v, e = .returned v ∧ Below w.heap.size w w' ∧ (R (L s) i).p v ((deps l i).map fun d => xs.getD d undef) w.heap.size w'.heap.size w') : o.wp P a w (fun a' w' => ∃ v, a' = a.put o.dst v ∧ PostS R s k l w0 L xs lo hi w i v w') (fun _ _ _ => False) :=
  op_call hrun hc fun e w' hE => let ⟨v, he, hb, hp⟩ := hK e w' hE; ⟨v, he, v, rfl, .inl ⟨his, hb, hp⟩⟩
/-- The store: of a whole row into a block that operation k made. -/
theorem sstep_row {o : Oper} {a : Act} {w : World} {k : Nat} (ty : TypeId) (x y : Operand) (t : TypeId) (old cells : Array Value) (g : Nat) (hR1 : R (L s) k = SFact.made (L s) (.cells old t (0, 0))) (hR2 : R True k = SFact.made True (.cells old t (0, 0))) (hR3 : R True s = SFact.stored t)
    (hmd : MadeS R s l n w0 L xs lo hi w) (hni : ¬ L s) (hk : L k) (ho : o.op = .store ty x y) (hxk : xs.getD k undef = .pointer (some ⟨g, 0, none⟩)) (hx : a.eval x = .pointer (some ⟨g, 0, none⟩)) (hy : a.eval y = .agg cells)
    (hi0 : (P.info? ty).map (·.size) = some cells.size) (hold : old.size = cells.size) (h1 : cells.all (·.oneCell') = true)
    (hd0 : ((deps l s).map fun d => xs.getD d undef).getD 0 undef = .pointer (some ⟨g, 0, none⟩)) (hd1 : ((deps l s).map fun d => xs.getD d undef).getD 1 undef = .agg cells) :
    o.wp P a w (fun a' w' => ∃ v, a' = a.put o.dst v ∧ PostS R s k l w0 L xs lo hi w s v w') (fun _ _ _ => False) := by
  have hlo := hmd.lohi k hk
  have hrel := hmd.rel k hk
  rw [hR1] at hrel
  obtain ⟨b, hb1, hb2, hb3⟩ := hrel
  obtain ⟨hb4, hb5⟩ := hb3 hni
  rw [hxk] at hb2
  obtain rfl : g = b := by injection hb2 with e; injection e with e; injection e
  refine Go.wp_store_row ty x y ho g cells hx hy t old hb5 hi0 hold h1 ⟨undef, rfl, .inr ⟨rfl, hk, ?_, by simp [World.setRow], fun b hb => setRow_other w g b _ (fun e => hb (e ▸ ⟨hb1, hb4⟩)), ?_, ?_⟩⟩
  · exact ⟨hmd.bel.os, hmd.bel.tape, hmd.bel.output, by have := hmd.bel.size; simpa [World.setRow] using this, fun b hb => (setRow_other w g b _ (by omega)).trans (hmd.bel.block b hb)⟩
  · rw [hR3]
    exact ⟨g, cells, hb1, hb4, hd0, hd1, setRow_heap w g _ cells _ _ hb5⟩
  · rw [hR2]
    exact ⟨g, hb1, hxk, fun h => absurd trivial h⟩
end
end Go.Proofs.Ytaooibocknemkaa
end
