/-
  RecPuts, part 12: the texts Eo, Ew1, Ez1, one after another. Conditions: none beyond those named at each.
-/
import Derived.Test.YtaooibocknemkaaGreatQ6RecPuts
import Derived.Test.YtaooibocknemkaaGreatEu
import Derived.Test.YtaooibocknemkaaGreatFit
import Derived.Test.YtaooibocknemkaaGreatCut
import Derived.Deep.MidRow
import Derived.Test.YtaooibocknemkaaGreatTxQ
section
namespace Go.Proofs.YtaooibocknemkaaGreat
open Go.RowKit Go.ChangeShapes Go.WideShapes
set_option linter.unusedVariables false
set_option linter.unusedSimpArgs false
theorem wf_u8q {n : Int} (h : (Lit.int .u8 n).wf = true) : 0 ≤ n ∧ n ≤ 255 := by simpa [Lit.wf, IntKind.min, IntKind.max, IntKind.signed, IntKind.bits] using h
/-- The document's small record. -/
structure PSml where
  kind : Nat
  num : Nat
  tx : PTx
  index : Nat
  br : Nat
  tag : Nat
  delay : Nat
  height : Nat
  point : Nat
  val : Nat
  budget : Nat
  fee : Nat
  dead : Nat
  start : Nat
  raw : PRec
  odd : Bool
structure PSml.Ok (z : PSml) : Prop where
  kind : z.kind < 256
  num : z.num < 256
  index : z.index < 256
  br : z.br < 256
  point : z.point < 256
  val : z.val < 4294967296
  budget : z.budget < 4294967296
  fee : z.fee < 4294967296
  dead : z.dead < 65536
  start : z.start < 65536
  ver : z.tx.ver < 4294967296
  lock : z.tx.lock < 4294967296
  tag : z.tag < 65536
  delay : z.delay < 65536
  height : z.height < 4294967296
  raw : z.raw.Ok
/-- The cells of a small record. -/
def smlCells (x : PSml) (va vb vc vd : Value) : List Value := [.int .u8 x.kind, .int .u8 x.num, .int .u32 x.tx.ver, va, vb, .int .u32 x.tx.lock, .int .u8 x.index, .int .u8 x.br, .int .u16 x.tag, .int .u16 x.delay, .int .u32 x.height, .int .u8 x.point, .int .u32 x.val, .int .u32 x.budget, .int .u32 x.fee, .int .u16 x.dead, .int .u16 x.start, .int .i64 x.raw.kind, .int .i64 x.raw.num, .int .u32 x.raw.tx.ver, vc, vd, .int .u32 x.raw.tx.lock, .int .i64 x.raw.index, .string x.raw.id, .int .u32 x.raw.idx, .int .i64 x.raw.val, .int .i64 x.raw.br, .int .u16 x.raw.tag, .int .u16 x.raw.delay, .int .u32 x.raw.height, .int .i64 x.raw.dead, .int .i64 x.raw.budget, .int .i64 x.raw.start, .int .i64 x.raw.fee, .bool x.odd]
def SmlAt (w : World) (cs : List Value) (x : PSml) : Prop := ∃ va vb vc vd, cs = smlCells x va vb vc vd ∧ SlAt rpIn w va x.tx.ins ∧ SlAt rpOut w vb x.tx.outs ∧ SlAt rpIn w vc x.raw.tx.ins ∧ SlAt rpOut w vd x.raw.tx.outs ∧ x.Ok
def rpSml : Rp PSml := ⟨36, SmlAt, fun hw ⟨va, vb, vc, vd, h1, h2, h3, h4, h5, h6⟩ => ⟨va, vb, vc, vd, h1, SlAt.mono h2 hw, SlAt.mono h3 hw, SlAt.mono h4 hw, SlAt.mono h5 hw, h6⟩⟩
section
variable {H : Type} {enc : TypeId × Value → H} {w : World} {spare : Nat → Bool} {held : Bool}
set_option maxRecDepth 100000 in
theorem rp_of_branch {fuel : Nat} {cs : List Value} {y : DataW H × List MemPlace} (h : DataW.trod enc Tryz.prog w 0 spare held fuel 29 cs = some y) : ∃ t d h : Nat, cs = [.int .u16 t, .int .u16 d, .int .u32 h] ∧ t < 65536 ∧ d < 65536 ∧ h < 4294967296 := by
  obtain ⟨xs, n, _, _, hl, hlen, hf⟩ := DataW.trod_struct Tryz.underlying29 h
  have hc : Tryz.prog.cellsOf 29 = 3 := by kernel_rfl
  rw [hc] at hl
  match cs, hl with
  | c0 :: c1 :: c2 :: [], _ =>
    have hlen' : xs.length = 3 := hlen
    have g0 := hf 0 _ rfl
    have g1 := hf 1 _ rfl
    have g2 := hf 2 _ rfl
    rw [List.getElem?_eq_getElem (by omega)] at g0 g1 g2
    obtain ⟨n0, e0, w0⟩ := rp_of_int Tryz.underlying27 g0
    have k0 : Tryz.prog.cellsOf 27 = 1 := by kernel_rfl
    have e0' : ([c0, c1, c2].drop 0).take (Tryz.prog.cellsOf 27) = [.int .u16 n0] := e0
    rw [k0] at e0'
    have f0 : c0 = .int .u16 n0 := by simpa using e0'
    obtain ⟨n1, e1, w1⟩ := rp_of_int Tryz.underlying27 g1
    have k1 : Tryz.prog.cellsOf 27 = 1 := by kernel_rfl
    have e1' : ([c0, c1, c2].drop 1).take (Tryz.prog.cellsOf 27) = [.int .u16 n1] := e1
    rw [k1] at e1'
    have f1 : c1 = .int .u16 n1 := by simpa using e1'
    obtain ⟨n2, e2, w2⟩ := rp_of_int Tryz.underlying22 g2
    have k2 : Tryz.prog.cellsOf 22 = 1 := by kernel_rfl
    have e2' : ([c0, c1, c2].drop 2).take (Tryz.prog.cellsOf 22) = [.int .u32 n2] := e2
    rw [k2] at e2'
    have f2 : c2 = .int .u32 n2 := by simpa using e2'
    have b0 : 0 ≤ n0 ∧ n0 ≤ 65535 := wf_u16 w0
    have b1 : 0 ≤ n1 ∧ n1 ≤ 65535 := wf_u16 w1
    have b2 : 0 ≤ n2 ∧ n2 ≤ 4294967295 := wf_u32 w2
    refine ⟨n0.toNat, n1.toNat, n2.toNat, ?_, by omega, by omega, by omega⟩
    rw [f0, f1, f2, show ((n0.toNat : Nat) : Int) = n0 by omega, show ((n1.toNat : Nat) : Int) = n1 by omega, show ((n2.toNat : Nat) : Int) = n2 by omega]
set_option maxRecDepth 100000 in
theorem rp_of_claim {fuel : Nat} {cs : List Value} {y : DataW H × List MemPlace} (h : DataW.trod enc Tryz.prog w 0 spare held fuel 33 cs = some y) : ∃ (id : ByteArray) (ix : Nat) (val br : Int) (t d h : Nat) (dead : Int), cs = [.string id, .int .u32 ix, .int .i64 val, .int .i64 br, .int .u16 t, .int .u16 d, .int .u32 h, .int .i64 dead] ∧ id.size ≤ maxLen ∧ ix < 4294967296 ∧ i64R val ∧ i64R br ∧ t < 65536 ∧ d < 65536 ∧ h < 4294967296 ∧ i64R dead := by
  obtain ⟨xs, n, _, _, hl, hlen, hf⟩ := DataW.trod_struct Tryz.underlying33 h
  have hc : Tryz.prog.cellsOf 33 = 8 := by kernel_rfl
  rw [hc] at hl
  match cs, hl with
  | c0 :: c1 :: c2 :: c3 :: c4 :: c5 :: c6 :: c7 :: [], _ =>
    have hlen' : xs.length = 5 := hlen
    have g0 := hf 0 _ rfl
    have g1 := hf 1 _ rfl
    have g2 := hf 2 _ rfl
    have g3 := hf 3 _ rfl
    have g4 := hf 4 _ rfl
    rw [List.getElem?_eq_getElem (by omega)] at g0 g1 g2 g3 g4
    obtain ⟨s0, n0, e0, w0, v0⟩ := rp_of_point g0
    have k0 : Tryz.prog.cellsOf 31 = 2 := by kernel_rfl
    have e0' : ([c0, c1, c2, c3, c4, c5, c6, c7].drop 0).take (Tryz.prog.cellsOf 31) = [.string s0, .int .u32 n0] := e0
    rw [k0] at e0'
    obtain ⟨f0, f1⟩ : c0 = .string s0 ∧ c1 = .int .u32 n0 := by simpa using e0'
    obtain ⟨n1, e1, w1⟩ := rp_of_int Tryz.underlying3 g1
    have k1 : Tryz.prog.cellsOf 3 = 1 := by kernel_rfl
    have e1' : ([c0, c1, c2, c3, c4, c5, c6, c7].drop 2).take (Tryz.prog.cellsOf 3) = [.int .i64 n1] := e1
    rw [k1] at e1'
    have f2 : c2 = .int .i64 n1 := by simpa using e1'
    obtain ⟨n2, e2, w2⟩ := rp_of_int Tryz.underlying3 g2
    have k2 : Tryz.prog.cellsOf 3 = 1 := by kernel_rfl
    have e2' : ([c0, c1, c2, c3, c4, c5, c6, c7].drop 3).take (Tryz.prog.cellsOf 3) = [.int .i64 n2] := e2
    rw [k2] at e2'
    have f3 : c3 = .int .i64 n2 := by simpa using e2'
    obtain ⟨t3, d3, h3, e3, wt3, wd3, wh3⟩ := rp_of_branch g3
    have k3 : Tryz.prog.cellsOf 29 = 3 := by kernel_rfl
    have e3' : ([c0, c1, c2, c3, c4, c5, c6, c7].drop 4).take (Tryz.prog.cellsOf 29) = [.int .u16 t3, .int .u16 d3, .int .u32 h3] := e3
    rw [k3] at e3'
    obtain ⟨f4, f5, f6⟩ : c4 = .int .u16 t3 ∧ c5 = .int .u16 d3 ∧ c6 = .int .u32 h3 := by simpa using e3'
    obtain ⟨n4, e4, w4⟩ := rp_of_int Tryz.underlying3 g4
    have k4 : Tryz.prog.cellsOf 3 = 1 := by kernel_rfl
    have e4' : ([c0, c1, c2, c3, c4, c5, c6, c7].drop 7).take (Tryz.prog.cellsOf 3) = [.int .i64 n4] := e4
    rw [k4] at e4'
    have f7 : c7 = .int .i64 n4 := by simpa using e4'
    refine ⟨s0, n0, n1, n2, t3, d3, h3, n4, ?_, w0, v0, wf_i64 w1, wf_i64 w2, wt3, wd3, wh3, wf_i64 w4⟩
    rw [f0, f1, f2, f3, f4, f5, f6, f7]
set_option maxRecDepth 100000 in
theorem rp_of_record {fuel : Nat} {cs : List Value} {y : DataW H × List MemPlace} (h : DataW.trod enc Tryz.prog w 0 spare held fuel 35 cs = some y) : ∃ x, RecAt w (.agg cs.toArray) x := by
  obtain ⟨xs, n, _, _, hl, hlen, hf⟩ := DataW.trod_struct Tryz.underlying35 h
  have hc : Tryz.prog.cellsOf 35 = 18 := by kernel_rfl
  rw [hc] at hl
  match cs, hl with
  | c0 :: c1 :: c2 :: c3 :: c4 :: c5 :: c6 :: c7 :: c8 :: c9 :: c10 :: c11 :: c12 :: c13 :: c14 :: c15 :: c16 :: c17 :: [], _ =>
    have hlen' : xs.length = 8 := hlen
    have g0 := hf 0 _ rfl
    have g1 := hf 1 _ rfl
    have g2 := hf 2 _ rfl
    have g3 := hf 3 _ rfl
    have g4 := hf 4 _ rfl
    have g5 := hf 5 _ rfl
    have g6 := hf 6 _ rfl
    have g7 := hf 7 _ rfl
    rw [List.getElem?_eq_getElem (by omega)] at g0 g1 g2 g3 g4 g5 g6 g7
    obtain ⟨n0, e0, w0⟩ := rp_of_int Tryz.underlying3 g0
    have k0 : Tryz.prog.cellsOf 3 = 1 := by kernel_rfl
    have e0' : ([c0, c1, c2, c3, c4, c5, c6, c7, c8, c9, c10, c11, c12, c13, c14, c15, c16, c17].drop 0).take (Tryz.prog.cellsOf 3) = [.int .i64 n0] := e0
    rw [k0] at e0'
    have f0 : c0 = .int .i64 n0 := by simpa using e0'
    obtain ⟨n1, e1, w1⟩ := rp_of_int Tryz.underlying3 g1
    have k1 : Tryz.prog.cellsOf 3 = 1 := by kernel_rfl
    have e1' : ([c0, c1, c2, c3, c4, c5, c6, c7, c8, c9, c10, c11, c12, c13, c14, c15, c16, c17].drop 1).take (Tryz.prog.cellsOf 3) = [.int .i64 n1] := e1
    rw [k1] at e1'
    have f1 : c1 = .int .i64 n1 := by simpa using e1'
    obtain ⟨tx, ta, tb, e2z, tsa, tsb, tv, tk⟩ := rp_of_tx g2
    have k2 : Tryz.prog.cellsOf 26 = 4 := by kernel_rfl
    have e2y : Value.agg (([c0, c1, c2, c3, c4, c5, c6, c7, c8, c9, c10, c11, c12, c13, c14, c15, c16, c17].drop 2).take (Tryz.prog.cellsOf 26)).toArray = .agg #[.int .u32 tx.ver, ta, tb, .int .u32 tx.lock] := e2z
    rw [k2] at e2y
    have e2' : [c2, c3, c4, c5] = [.int .u32 tx.ver, ta, tb, .int .u32 tx.lock] := by
      have h0 := congrArg (fun q : Value => match q with | .agg cs => cs.toList | _ => []) e2y
      exact h0
    obtain ⟨f2, f3, f4, f5⟩ : c2 = .int .u32 tx.ver ∧ c3 = ta ∧ c4 = tb ∧ c5 = .int .u32 tx.lock := by simpa using e2'
    obtain ⟨n3, e3, w3⟩ := rp_of_int Tryz.underlying3 g3
    have k3 : Tryz.prog.cellsOf 3 = 1 := by kernel_rfl
    have e3' : ([c0, c1, c2, c3, c4, c5, c6, c7, c8, c9, c10, c11, c12, c13, c14, c15, c16, c17].drop 6).take (Tryz.prog.cellsOf 3) = [.int .i64 n3] := e3
    rw [k3] at e3'
    have f6 : c6 = .int .i64 n3 := by simpa using e3'
    obtain ⟨cid, cix, cval, cbr, ct, cd, ch, cdead, e4, o1, o2, o3, o4, o5, o6, o7, o8⟩ := rp_of_claim g4
    have k4 : Tryz.prog.cellsOf 33 = 8 := by kernel_rfl
    have e4' : ([c0, c1, c2, c3, c4, c5, c6, c7, c8, c9, c10, c11, c12, c13, c14, c15, c16, c17].drop 7).take (Tryz.prog.cellsOf 33) = [.string cid, .int .u32 cix, .int .i64 cval, .int .i64 cbr, .int .u16 ct, .int .u16 cd, .int .u32 ch, .int .i64 cdead] := e4
    rw [k4] at e4'
    obtain ⟨f7, f8, f9, f10, f11, f12, f13, f14⟩ : c7 = .string cid ∧ c8 = .int .u32 cix ∧ c9 = .int .i64 cval ∧ c10 = .int .i64 cbr ∧ c11 = .int .u16 ct ∧ c12 = .int .u16 cd ∧ c13 = .int .u32 ch ∧ c14 = .int .i64 cdead := by simpa using e4'
    obtain ⟨n5, e5, w5⟩ := rp_of_int Tryz.underlying3 g5
    have k5 : Tryz.prog.cellsOf 3 = 1 := by kernel_rfl
    have e5' : ([c0, c1, c2, c3, c4, c5, c6, c7, c8, c9, c10, c11, c12, c13, c14, c15, c16, c17].drop 15).take (Tryz.prog.cellsOf 3) = [.int .i64 n5] := e5
    rw [k5] at e5'
    have f15 : c15 = .int .i64 n5 := by simpa using e5'
    obtain ⟨n6, e6, w6⟩ := rp_of_int Tryz.underlying3 g6
    have k6 : Tryz.prog.cellsOf 3 = 1 := by kernel_rfl
    have e6' : ([c0, c1, c2, c3, c4, c5, c6, c7, c8, c9, c10, c11, c12, c13, c14, c15, c16, c17].drop 16).take (Tryz.prog.cellsOf 3) = [.int .i64 n6] := e6
    rw [k6] at e6'
    have f16 : c16 = .int .i64 n6 := by simpa using e6'
    obtain ⟨n7, e7, w7⟩ := rp_of_int Tryz.underlying3 g7
    have k7 : Tryz.prog.cellsOf 3 = 1 := by kernel_rfl
    have e7' : ([c0, c1, c2, c3, c4, c5, c6, c7, c8, c9, c10, c11, c12, c13, c14, c15, c16, c17].drop 17).take (Tryz.prog.cellsOf 3) = [.int .i64 n7] := e7
    rw [k7] at e7'
    have f17 : c17 = .int .i64 n7 := by simpa using e7'
    refine ⟨⟨n0, n1, tx, n3, cid, cix, cval, cbr, ct, cd, ch, cdead, n5, n6, n7⟩, ta, tb, ?_, tsa, tsb, ⟨wf_i64 w0, wf_i64 w1, tv, tk, wf_i64 w3, o1, o2, o3, o4, o5, o6, o7, o8, wf_i64 w5, wf_i64 w6, wf_i64 w7⟩⟩
    rw [f0, f1, f2, f3, f4, f5, f6, f7, f8, f9, f10, f11, f12, f13, f14, f15, f16, f17]
set_option maxRecDepth 100000 in
theorem rp_of_small {fuel : Nat} {cs : List Value} {y : DataW H × List MemPlace} (h : DataW.trod enc Tryz.prog w 0 spare held fuel 37 cs = some y) : ∃ x, rpSml.at_ w cs x := by
  obtain ⟨xs, n, _, _, hl, hlen, hf⟩ := DataW.trod_struct Tryz.underlying37 h
  have hc : Tryz.prog.cellsOf 37 = 36 := by kernel_rfl
  rw [hc] at hl
  match cs, hl with
  | c0 :: c1 :: c2 :: c3 :: c4 :: c5 :: c6 :: c7 :: c8 :: c9 :: c10 :: c11 :: c12 :: c13 :: c14 :: c15 :: c16 :: c17 :: c18 :: c19 :: c20 :: c21 :: c22 :: c23 :: c24 :: c25 :: c26 :: c27 :: c28 :: c29 :: c30 :: c31 :: c32 :: c33 :: c34 :: c35 :: [], _ =>
    have hlen' : xs.length = 14 := hlen
    have g0 := hf 0 _ rfl
    have g1 := hf 1 _ rfl
    have g2 := hf 2 _ rfl
    have g3 := hf 3 _ rfl
    have g4 := hf 4 _ rfl
    have g5 := hf 5 _ rfl
    have g6 := hf 6 _ rfl
    have g7 := hf 7 _ rfl
    have g8 := hf 8 _ rfl
    have g9 := hf 9 _ rfl
    have g10 := hf 10 _ rfl
    have g11 := hf 11 _ rfl
    have g12 := hf 12 _ rfl
    have g13 := hf 13 _ rfl
    rw [List.getElem?_eq_getElem (by omega)] at g0 g1 g2 g3 g4 g5 g6 g7 g8 g9 g10 g11 g12 g13
    obtain ⟨n0, e0, w0⟩ := rp_of_int Tryz.underlying5 g0
    have k0 : Tryz.prog.cellsOf 5 = 1 := by kernel_rfl
    have e0' : ([c0, c1, c2, c3, c4, c5, c6, c7, c8, c9, c10, c11, c12, c13, c14, c15, c16, c17, c18, c19, c20, c21, c22, c23, c24, c25, c26, c27, c28, c29, c30, c31, c32, c33, c34, c35].drop 0).take (Tryz.prog.cellsOf 5) = [.int .u8 n0] := e0
    rw [k0] at e0'
    have f0 : c0 = .int .u8 n0 := by simpa using e0'
    obtain ⟨n1, e1, w1⟩ := rp_of_int Tryz.underlying5 g1
    have k1 : Tryz.prog.cellsOf 5 = 1 := by kernel_rfl
    have e1' : ([c0, c1, c2, c3, c4, c5, c6, c7, c8, c9, c10, c11, c12, c13, c14, c15, c16, c17, c18, c19, c20, c21, c22, c23, c24, c25, c26, c27, c28, c29, c30, c31, c32, c33, c34, c35].drop 1).take (Tryz.prog.cellsOf 5) = [.int .u8 n1] := e1
    rw [k1] at e1'
    have f1 : c1 = .int .u8 n1 := by simpa using e1'
    obtain ⟨tx, ta, tb, e2z, tsa, tsb, tv, tk⟩ := rp_of_tx g2
    have k2 : Tryz.prog.cellsOf 26 = 4 := by kernel_rfl
    have e2y : Value.agg (([c0, c1, c2, c3, c4, c5, c6, c7, c8, c9, c10, c11, c12, c13, c14, c15, c16, c17, c18, c19, c20, c21, c22, c23, c24, c25, c26, c27, c28, c29, c30, c31, c32, c33, c34, c35].drop 2).take (Tryz.prog.cellsOf 26)).toArray = .agg #[.int .u32 tx.ver, ta, tb, .int .u32 tx.lock] := e2z
    rw [k2] at e2y
    have e2' : [c2, c3, c4, c5] = [.int .u32 tx.ver, ta, tb, .int .u32 tx.lock] := by
      have h0 := congrArg (fun q : Value => match q with | .agg cs => cs.toList | _ => []) e2y
      exact h0
    obtain ⟨f2, f3, f4, f5⟩ : c2 = .int .u32 tx.ver ∧ c3 = ta ∧ c4 = tb ∧ c5 = .int .u32 tx.lock := by simpa using e2'
    obtain ⟨n3, e3, w3⟩ := rp_of_int Tryz.underlying5 g3
    have k3 : Tryz.prog.cellsOf 5 = 1 := by kernel_rfl
    have e3' : ([c0, c1, c2, c3, c4, c5, c6, c7, c8, c9, c10, c11, c12, c13, c14, c15, c16, c17, c18, c19, c20, c21, c22, c23, c24, c25, c26, c27, c28, c29, c30, c31, c32, c33, c34, c35].drop 6).take (Tryz.prog.cellsOf 5) = [.int .u8 n3] := e3
    rw [k3] at e3'
    have f6 : c6 = .int .u8 n3 := by simpa using e3'
    obtain ⟨n4, e4, w4⟩ := rp_of_int Tryz.underlying5 g4
    have k4 : Tryz.prog.cellsOf 5 = 1 := by kernel_rfl
    have e4' : ([c0, c1, c2, c3, c4, c5, c6, c7, c8, c9, c10, c11, c12, c13, c14, c15, c16, c17, c18, c19, c20, c21, c22, c23, c24, c25, c26, c27, c28, c29, c30, c31, c32, c33, c34, c35].drop 7).take (Tryz.prog.cellsOf 5) = [.int .u8 n4] := e4
    rw [k4] at e4'
    have f7 : c7 = .int .u8 n4 := by simpa using e4'
    obtain ⟨t5, d5, h5, e5, wt5, wd5, wh5⟩ := rp_of_branch g5
    have k5 : Tryz.prog.cellsOf 29 = 3 := by kernel_rfl
    have e5' : ([c0, c1, c2, c3, c4, c5, c6, c7, c8, c9, c10, c11, c12, c13, c14, c15, c16, c17, c18, c19, c20, c21, c22, c23, c24, c25, c26, c27, c28, c29, c30, c31, c32, c33, c34, c35].drop 8).take (Tryz.prog.cellsOf 29) = [.int .u16 t5, .int .u16 d5, .int .u32 h5] := e5
    rw [k5] at e5'
    obtain ⟨f8, f9, f10⟩ : c8 = .int .u16 t5 ∧ c9 = .int .u16 d5 ∧ c10 = .int .u32 h5 := by simpa using e5'
    obtain ⟨n6, e6, w6⟩ := rp_of_int Tryz.underlying5 g6
    have k6 : Tryz.prog.cellsOf 5 = 1 := by kernel_rfl
    have e6' : ([c0, c1, c2, c3, c4, c5, c6, c7, c8, c9, c10, c11, c12, c13, c14, c15, c16, c17, c18, c19, c20, c21, c22, c23, c24, c25, c26, c27, c28, c29, c30, c31, c32, c33, c34, c35].drop 11).take (Tryz.prog.cellsOf 5) = [.int .u8 n6] := e6
    rw [k6] at e6'
    have f11 : c11 = .int .u8 n6 := by simpa using e6'
    obtain ⟨n7, e7, w7⟩ := rp_of_int Tryz.underlying22 g7
    have k7 : Tryz.prog.cellsOf 22 = 1 := by kernel_rfl
    have e7' : ([c0, c1, c2, c3, c4, c5, c6, c7, c8, c9, c10, c11, c12, c13, c14, c15, c16, c17, c18, c19, c20, c21, c22, c23, c24, c25, c26, c27, c28, c29, c30, c31, c32, c33, c34, c35].drop 12).take (Tryz.prog.cellsOf 22) = [.int .u32 n7] := e7
    rw [k7] at e7'
    have f12 : c12 = .int .u32 n7 := by simpa using e7'
    obtain ⟨n8, e8, w8⟩ := rp_of_int Tryz.underlying22 g8
    have k8 : Tryz.prog.cellsOf 22 = 1 := by kernel_rfl
    have e8' : ([c0, c1, c2, c3, c4, c5, c6, c7, c8, c9, c10, c11, c12, c13, c14, c15, c16, c17, c18, c19, c20, c21, c22, c23, c24, c25, c26, c27, c28, c29, c30, c31, c32, c33, c34, c35].drop 13).take (Tryz.prog.cellsOf 22) = [.int .u32 n8] := e8
    rw [k8] at e8'
    have f13 : c13 = .int .u32 n8 := by simpa using e8'
    obtain ⟨n9, e9, w9⟩ := rp_of_int Tryz.underlying22 g9
    have k9 : Tryz.prog.cellsOf 22 = 1 := by kernel_rfl
    have e9' : ([c0, c1, c2, c3, c4, c5, c6, c7, c8, c9, c10, c11, c12, c13, c14, c15, c16, c17, c18, c19, c20, c21, c22, c23, c24, c25, c26, c27, c28, c29, c30, c31, c32, c33, c34, c35].drop 14).take (Tryz.prog.cellsOf 22) = [.int .u32 n9] := e9
    rw [k9] at e9'
    have f14 : c14 = .int .u32 n9 := by simpa using e9'
    obtain ⟨n10, e10, w10⟩ := rp_of_int Tryz.underlying27 g10
    have k10 : Tryz.prog.cellsOf 27 = 1 := by kernel_rfl
    have e10' : ([c0, c1, c2, c3, c4, c5, c6, c7, c8, c9, c10, c11, c12, c13, c14, c15, c16, c17, c18, c19, c20, c21, c22, c23, c24, c25, c26, c27, c28, c29, c30, c31, c32, c33, c34, c35].drop 15).take (Tryz.prog.cellsOf 27) = [.int .u16 n10] := e10
    rw [k10] at e10'
    have f15 : c15 = .int .u16 n10 := by simpa using e10'
    obtain ⟨n11, e11, w11⟩ := rp_of_int Tryz.underlying27 g11
    have k11 : Tryz.prog.cellsOf 27 = 1 := by kernel_rfl
    have e11' : ([c0, c1, c2, c3, c4, c5, c6, c7, c8, c9, c10, c11, c12, c13, c14, c15, c16, c17, c18, c19, c20, c21, c22, c23, c24, c25, c26, c27, c28, c29, c30, c31, c32, c33, c34, c35].drop 16).take (Tryz.prog.cellsOf 27) = [.int .u16 n11] := e11
    rw [k11] at e11'
    have f16 : c16 = .int .u16 n11 := by simpa using e11'
    obtain ⟨rr, ra, rb, e12z, rsa, rsb, rok⟩ := rp_of_record g12
    have k12 : Tryz.prog.cellsOf 35 = 18 := by kernel_rfl
    have e12y : Value.agg (([c0, c1, c2, c3, c4, c5, c6, c7, c8, c9, c10, c11, c12, c13, c14, c15, c16, c17, c18, c19, c20, c21, c22, c23, c24, c25, c26, c27, c28, c29, c30, c31, c32, c33, c34, c35].drop 17).take (Tryz.prog.cellsOf 35)).toArray = .agg #[.int .i64 rr.kind, .int .i64 rr.num, .int .u32 rr.tx.ver, ra, rb, .int .u32 rr.tx.lock, .int .i64 rr.index, .string rr.id, .int .u32 rr.idx, .int .i64 rr.val, .int .i64 rr.br, .int .u16 rr.tag, .int .u16 rr.delay, .int .u32 rr.height, .int .i64 rr.dead, .int .i64 rr.budget, .int .i64 rr.start, .int .i64 rr.fee] := e12z
    rw [k12] at e12y
    have e12' : [c17, c18, c19, c20, c21, c22, c23, c24, c25, c26, c27, c28, c29, c30, c31, c32, c33, c34] = [.int .i64 rr.kind, .int .i64 rr.num, .int .u32 rr.tx.ver, ra, rb, .int .u32 rr.tx.lock, .int .i64 rr.index, .string rr.id, .int .u32 rr.idx, .int .i64 rr.val, .int .i64 rr.br, .int .u16 rr.tag, .int .u16 rr.delay, .int .u32 rr.height, .int .i64 rr.dead, .int .i64 rr.budget, .int .i64 rr.start, .int .i64 rr.fee] := by
      have h0 := congrArg (fun q : Value => match q with | .agg cs => cs.toList | _ => []) e12y
      exact h0
    obtain ⟨f17, f18, f19, f20, f21, f22, f23, f24, f25, f26, f27, f28, f29, f30, f31, f32, f33, f34⟩ : c17 = .int .i64 rr.kind ∧ c18 = .int .i64 rr.num ∧ c19 = .int .u32 rr.tx.ver ∧ c20 = ra ∧ c21 = rb ∧ c22 = .int .u32 rr.tx.lock ∧ c23 = .int .i64 rr.index ∧ c24 = .string rr.id ∧ c25 = .int .u32 rr.idx ∧ c26 = .int .i64 rr.val ∧ c27 = .int .i64 rr.br ∧ c28 = .int .u16 rr.tag ∧ c29 = .int .u16 rr.delay ∧ c30 = .int .u32 rr.height ∧ c31 = .int .i64 rr.dead ∧ c32 = .int .i64 rr.budget ∧ c33 = .int .i64 rr.start ∧ c34 = .int .i64 rr.fee := by simpa using e12'
    obtain ⟨n13, e13⟩ := rp_of_bool Tryz.underlying4 g13
    have k13 : Tryz.prog.cellsOf 4 = 1 := by kernel_rfl
    have e13' : ([c0, c1, c2, c3, c4, c5, c6, c7, c8, c9, c10, c11, c12, c13, c14, c15, c16, c17, c18, c19, c20, c21, c22, c23, c24, c25, c26, c27, c28, c29, c30, c31, c32, c33, c34, c35].drop 35).take (Tryz.prog.cellsOf 4) = [.bool n13] := e13
    rw [k13] at e13'
    have f35 : c35 = .bool n13 := by simpa using e13'
    have b0 : 0 ≤ n0 ∧ n0 ≤ 255 := wf_u8q w0
    have b1 : 0 ≤ n1 ∧ n1 ≤ 255 := wf_u8q w1
    have b3 : 0 ≤ n3 ∧ n3 ≤ 255 := wf_u8q w3
    have b4 : 0 ≤ n4 ∧ n4 ≤ 255 := wf_u8q w4
    have b6 : 0 ≤ n6 ∧ n6 ≤ 255 := wf_u8q w6
    have b7 : 0 ≤ n7 ∧ n7 ≤ 4294967295 := wf_u32 w7
    have b8 : 0 ≤ n8 ∧ n8 ≤ 4294967295 := wf_u32 w8
    have b9 : 0 ≤ n9 ∧ n9 ≤ 4294967295 := wf_u32 w9
    have b10 : 0 ≤ n10 ∧ n10 ≤ 65535 := wf_u16 w10
    have b11 : 0 ≤ n11 ∧ n11 ≤ 65535 := wf_u16 w11
    refine ⟨⟨n0.toNat, n1.toNat, tx, n3.toNat, n4.toNat, t5, d5, h5, n6.toNat, n7.toNat, n8.toNat, n9.toNat, n10.toNat, n11.toNat, rr, n13⟩, ta, tb, ra, rb, ?_, tsa, tsb, rsa, rsb, ⟨by dsimp only; omega, by dsimp only; omega, by dsimp only; omega, by dsimp only; omega, by dsimp only; omega, by dsimp only; omega, by dsimp only; omega, by dsimp only; omega, by dsimp only; omega, by dsimp only; omega, tv, tk, wt5, wd5, wh5, rok⟩⟩
    unfold smlCells
    dsimp only
    rw [f0, f1, f2, f3, f4, f5, f6, f7, f8, f9, f10, f11, f12, f13, f14, f15, f16, f17, f18, f19, f20, f21, f22, f23, f24, f25, f26, f27, f28, f29, f30, f31, f32, f33, f34, f35, show ((n0.toNat : Nat) : Int) = n0 by omega, show ((n1.toNat : Nat) : Int) = n1 by omega, show ((n3.toNat : Nat) : Int) = n3 by omega, show ((n4.toNat : Nat) : Int) = n4 by omega, show ((n6.toNat : Nat) : Int) = n6 by omega, show ((n7.toNat : Nat) : Int) = n7 by omega, show ((n8.toNat : Nat) : Int) = n8 by omega, show ((n9.toNat : Nat) : Int) = n9 by omega, show ((n10.toNat : Nat) : Int) = n10 by omega, show ((n11.toNat : Nat) : Int) = n11 by omega]
end
set_option maxRecDepth 100000 in
theorem open_sml {H : Type} {enc : TypeId × Value → H} {w : World} {v : Value} {d : DataW H} {ps : List MemPlace} (hv : Value.okWide Tryz.prog w .any 0 37 v) (h : DataW.Trod enc Tryz.prog w 0 (fun _ => true) true 37 v d ps) :
    ∃ z va vb vc vd, v = .agg (smlCells z va vb vc vd).toArray ∧ SlAt rpIn w va z.tx.ins ∧ SlAt rpOut w vb z.tx.outs ∧ SlAt rpIn w vc z.raw.tx.ins ∧ SlAt rpOut w vd z.raw.tx.outs ∧ z.Ok := by
  obtain ⟨cs, rfl, -⟩ := Go.WideShapes.okWide_struct Tryz.underlying37 hv
  obtain ⟨fuel, hf⟩ := h
  obtain ⟨x, va, vb, vc, vd, hx, h1, h2, h3, h4, ho⟩ := rp_of_small hf
  refine ⟨x, va, vb, vc, vd, ?_, h1, h2, h3, h4, ho⟩
  simp only [Value.cells] at hx
  rw [show cs = (smlCells x va vb vc vd).toArray from by apply Array.ext'; exact hx]
end Go.Proofs.YtaooibocknemkaaGreat
end

section
namespace Go.Proofs.YtaooibocknemkaaGreat
open Go.RowKit Go.BigFrame
set_option linter.unusedVariables false
set_option linter.unusedSimpArgs false
def MakeIs (w : World) (e : Ending) (w' : World) : Prop := ∃ v r, e = .returned v ∧ RecOwn w.heap.size w' v r ∧ r.tx.outs.length ≤ 1000 ∧ Below w.heap.size w w'
theorem range_of {w : World} {b : Nat} {t : TypeId} (pre cs post : List Value) (h : w.heap[b]? = some (.cells (pre ++ (cs ++ post)).toArray t (0, 0))) : w.rangeAt b pre.length cs := by
  intro j v hj
  rw [cell_at h]
  have hl := (List.getElem?_eq_some_iff.1 hj).1
  rw [List.getElem?_toArray, List.getElem?_append_right (by omega), List.getElem?_append_left (by omega), show pre.length + j - pre.length = j by omega]
  exact hj
set_option maxRecDepth 100000 in
set_option maxHeartbeats 8000000 in
theorem rmake_odd (z : PSml) (va vb vc vd : Value) (w : World) (h1 : SlAt rpIn w va z.tx.ins) (h2 : SlAt rpOut w vb z.tx.outs) (h3 : SlAt rpIn w vc z.raw.tx.ins) (h4 : SlAt rpOut w vd z.raw.tx.outs) (hk : z.Ok) (ho : z.odd = true) :
    Calls Tryz.prog 9 #[.agg #[.int .u8 z.kind, .int .u8 z.num, .int .u32 z.tx.ver, va, vb, .int .u32 z.tx.lock, .int .u8 z.index, .int .u8 z.br, .int .u16 z.tag, .int .u16 z.delay, .int .u32 z.height, .int .u8 z.point, .int .u32 z.val, .int .u32 z.budget, .int .u32 z.fee, .int .u16 z.dead, .int .u16 z.start, .int .i64 z.raw.kind, .int .i64 z.raw.num, .int .u32 z.raw.tx.ver, vc, vd, .int .u32 z.raw.tx.lock, .int .i64 z.raw.index, .string z.raw.id, .int .u32 z.raw.idx, .int .i64 z.raw.val, .int .i64 z.raw.br, .int .u16 z.raw.tag, .int .u16 z.raw.delay, .int .u32 z.raw.height, .int .i64 z.raw.dead, .int .i64 z.raw.budget, .int .i64 z.raw.start, .int .i64 z.raw.fee, .bool z.odd]] w (MakeIs w) := by
  rw [ho]
  have HT := Lib.hid (show TxAt w (.agg #[.int .u32 z.raw.tx.ver, vc, vd, .int .u32 z.raw.tx.lock]) z.raw.tx from ⟨vc, vd, rfl, h3, h4, hk.raw.ver, hk.raw.lock⟩)
  have HK := Lib.hid hk
  obtain ⟨ia, ic, rfl, -, -⟩ := h1.shape
  obtain ⟨oa, oc, rfl, -, -⟩ := h2.shape
  obtain ⟨ja, jc, rfl, -, -⟩ := h3.shape
  obtain ⟨qa, qc, rfl, -, -⟩ := h4.shape
  obtain ⟨n1, hn1⟩ : ∃ n, n = z.tx.ins.length := ⟨_, rfl⟩
  obtain ⟨n2, hn2⟩ : ∃ n, n = z.tx.outs.length := ⟨_, rfl⟩
  obtain ⟨n3, hn3⟩ : ∃ n, n = z.raw.tx.ins.length := ⟨_, rfl⟩
  obtain ⟨n4, hn4⟩ : ∃ n, n = z.raw.tx.outs.length := ⟨_, rfl⟩
  rw [← hn1, ← hn2, ← hn3, ← hn4]
  rw [← hn3, ← hn4] at HT
  clear hn1 hn2 hn3 hn4 h1 h2 h3 h4 hk ho
  go_enter Tryz.func9, Tryz.ntmps9
  go_upto_region 1 with fail
  obtain ⟨X, hX⟩ : ∃ q, q = w.heap.size := ⟨_, rfl⟩
  have hnews := new2 w X hX (.cells #[.int .u8 z.kind, .int .u8 z.num, .int .u32 z.tx.ver, .slice ia n1 ic, .slice oa n2 oc, .int .u32 z.tx.lock, .int .u8 z.index, .int .u8 z.br, .int .u16 z.tag, .int .u16 z.delay, .int .u32 z.height, .int .u8 z.point, .int .u32 z.val, .int .u32 z.budget, .int .u32 z.fee, .int .u16 z.dead, .int .u16 z.start, .int .i64 z.raw.kind, .int .i64 z.raw.num, .int .u32 z.raw.tx.ver, .slice ja n3 jc, .slice qa n4 qc, .int .u32 z.raw.tx.lock, .int .i64 z.raw.index, .string z.raw.id, .int .u32 z.raw.idx, .int .i64 z.raw.val, .int .i64 z.raw.br, .int .u16 z.raw.tag, .int .u16 z.raw.delay, .int .u32 z.raw.height, .int .i64 z.raw.dead, .int .i64 z.raw.budget, .int .i64 z.raw.start, .int .i64 z.raw.fee, .bool true] 37) (.cells #[.int .i64 0, .int .i64 0, .int .u32 0, .slice none 0 0, .slice none 0 0, .int .u32 0, .int .i64 0, .string ⟨#[]⟩, .int .u32 0, .int .i64 0, .int .i64 0, .int .u16 0, .int .u16 0, .int .u32 0, .int .i64 0, .int .i64 0, .int .i64 0, .int .i64 0] 35)
  rw [← hX]
  generalize ((w.alloc (.cells #[.int .u8 z.kind, .int .u8 z.num, .int .u32 z.tx.ver, .slice ia n1 ic, .slice oa n2 oc, .int .u32 z.tx.lock, .int .u8 z.index, .int .u8 z.br, .int .u16 z.tag, .int .u16 z.delay, .int .u32 z.height, .int .u8 z.point, .int .u32 z.val, .int .u32 z.budget, .int .u32 z.fee, .int .u16 z.dead, .int .u16 z.start, .int .i64 z.raw.kind, .int .i64 z.raw.num, .int .u32 z.raw.tx.ver, .slice ja n3 jc, .slice qa n4 qc, .int .u32 z.raw.tx.lock, .int .i64 z.raw.index, .string z.raw.id, .int .u32 z.raw.idx, .int .i64 z.raw.val, .int .i64 z.raw.br, .int .u16 z.raw.tag, .int .u16 z.raw.delay, .int .u32 z.raw.height, .int .i64 z.raw.dead, .int .i64 z.raw.budget, .int .i64 z.raw.start, .int .i64 z.raw.fee, .bool true] 37)).alloc (.cells #[.int .i64 0, .int .i64 0, .int .u32 0, .slice none 0 0, .slice none 0 0, .int .u32 0, .int .i64 0, .string ⟨#[]⟩, .int .u32 0, .int .i64 0, .int .i64 0, .int .u16 0, .int .u16 0, .int .u32 0, .int .i64 0, .int .i64 0, .int .i64 0, .int .i64 0] 35)) = w0 at *
  obtain ⟨hz0, hz1, hal⟩ := hnews
  have HZ0 := Lib.hid hz0
  have HZ1 := Lib.hid hz1
  have HB := Lib.hid hal
  have HX := Lib.hid hX
  have HT := Lib.hid (HT.out.below hal)
  have x35 : w0.cell? ⟨X, 35, none⟩ = some (.bool true) := cell_at hz0
  have HRG := Lib.hid (show w0.rangeAt X 17 [.int .i64 z.raw.kind, .int .i64 z.raw.num, .int .u32 z.raw.tx.ver, .slice ja n3 jc, .slice qa n4 qc, .int .u32 z.raw.tx.lock, .int .i64 z.raw.index, .string z.raw.id, .int .u32 z.raw.idx, .int .i64 z.raw.val, .int .i64 z.raw.br, .int .u16 z.raw.tag, .int .u16 z.raw.delay, .int .u32 z.raw.height, .int .i64 z.raw.dead, .int .i64 z.raw.budget, .int .i64 z.raw.start, .int .i64 z.raw.fee] from range_of [.int .u8 z.kind, .int .u8 z.num, .int .u32 z.tx.ver, .slice ia n1 ic, .slice oa n2 oc, .int .u32 z.tx.lock, .int .u8 z.index, .int .u8 z.br, .int .u16 z.tag, .int .u16 z.delay, .int .u32 z.height, .int .u8 z.point, .int .u32 z.val, .int .u32 z.budget, .int .u32 z.fee, .int .u16 z.dead, .int .u16 z.start] [.int .i64 z.raw.kind, .int .i64 z.raw.num, .int .u32 z.raw.tx.ver, .slice ja n3 jc, .slice qa n4 qc, .int .u32 z.raw.tx.lock, .int .i64 z.raw.index, .string z.raw.id, .int .u32 z.raw.idx, .int .i64 z.raw.val, .int .i64 z.raw.br, .int .u16 z.raw.tag, .int .u16 z.raw.delay, .int .u32 z.raw.height, .int .i64 z.raw.dead, .int .i64 z.raw.budget, .int .i64 z.raw.start, .int .i64 z.raw.fee] [.bool true] hz0)
  have HNW := Lib.hid (heap_alloc_new w0 (.cells #[.int .i64 0, .int .i64 0, .int .u32 0, .slice none 0 0, .slice none 0 0, .int .u32 0, .int .i64 0, .string ⟨#[]⟩, .int .u32 0, .int .i64 0, .int .i64 0, .int .u16 0, .int .u16 0, .int .u32 0, .int .i64 0, .int .i64 0, .int .i64 0, .int .i64 0] 35))
  have HNR := Lib.hid (setRow_heap (w0.alloc (.cells #[.int .i64 0, .int .i64 0, .int .u32 0, .slice none 0 0, .slice none 0 0, .int .u32 0, .int .i64 0, .string ⟨#[]⟩, .int .u32 0, .int .i64 0, .int .i64 0, .int .u16 0, .int .u16 0, .int .u32 0, .int .i64 0, .int .i64 0, .int .i64 0, .int .i64 0] 35)) w0.heap.size _ #[.int .i64 z.raw.kind, .int .i64 z.raw.num, .int .u32 z.raw.tx.ver, .slice ja n3 jc, .slice qa n4 qc, .int .u32 z.raw.tx.lock, .int .i64 z.raw.index, .string z.raw.id, .int .u32 z.raw.idx, .int .i64 z.raw.val, .int .i64 z.raw.br, .int .u16 z.raw.tag, .int .u16 z.raw.delay, .int .u32 z.raw.height, .int .i64 z.raw.dead, .int .i64 z.raw.budget, .int .i64 z.raw.start, .int .i64 z.raw.fee] _ _ HNW.out)
  have HAL := Lib.hid (show Below w0.heap.size w0 ((w0.alloc (.cells #[.int .i64 0, .int .i64 0, .int .u32 0, .slice none 0 0, .slice none 0 0, .int .u32 0, .int .i64 0, .string ⟨#[]⟩, .int .u32 0, .int .i64 0, .int .i64 0, .int .u16 0, .int .u16 0, .int .u32 0, .int .i64 0, .int .i64 0, .int .i64 0, .int .i64 0] 35)).setRow w0.heap.size #[.int .i64 z.raw.kind, .int .i64 z.raw.num, .int .u32 z.raw.tx.ver, .slice ja n3 jc, .slice qa n4 qc, .int .u32 z.raw.tx.lock, .int .i64 z.raw.index, .string z.raw.id, .int .u32 z.raw.idx, .int .i64 z.raw.val, .int .i64 z.raw.br, .int .u16 z.raw.tag, .int .u16 z.raw.delay, .int .u32 z.raw.height, .int .i64 z.raw.dead, .int .i64 z.raw.budget, .int .i64 z.raw.start, .int .i64 z.raw.fee]) from below_rowE ((Below.refl _ _).alloc (Nat.le_refl _) _) (Nat.le_refl _) _)
  clear hz0 hz1 hal hX
  go_upto_region 2 with fail
  clear x35
  go_upto_region 3 with (first | (refine wpList_load_mid rfl 35 (.tmp 7) rfl X 17 rfl [.int .i64 z.raw.kind, .int .i64 z.raw.num, .int .u32 z.raw.tx.ver, .slice ja n3 jc, .slice qa n4 qc, .int .u32 z.raw.tx.lock, .int .i64 z.raw.index, .string z.raw.id, .int .u32 z.raw.idx, .int .i64 z.raw.val, .int .i64 z.raw.br, .int .u16 z.raw.tag, .int .u16 z.raw.delay, .int .u32 z.raw.height, .int .i64 z.raw.dead, .int .i64 z.raw.budget, .int .i64 z.raw.start, .int .i64 z.raw.fee] _ HRG.out Tryz.underlying35 rfl (by kernel_rfl) ?_) | (refine wpList_store_row rfl 35 (.tmp 3) (.tmp 8) rfl w0.heap.size #[.int .i64 z.raw.kind, .int .i64 z.raw.num, .int .u32 z.raw.tx.ver, .slice ja n3 jc, .slice qa n4 qc, .int .u32 z.raw.tx.lock, .int .i64 z.raw.index, .string z.raw.id, .int .u32 z.raw.idx, .int .i64 z.raw.val, .int .i64 z.raw.br, .int .u16 z.raw.tag, .int .u16 z.raw.delay, .int .u32 z.raw.height, .int .i64 z.raw.dead, .int .i64 z.raw.budget, .int .i64 z.raw.start, .int .i64 z.raw.fee] rfl rfl 35 _ HNW.out (by kernel_rfl) rfl (by kernel_rfl) ?_))
  clear HNW HRG
  obtain ⟨V, hV⟩ : ∃ q, q = w0.heap.size := ⟨_, rfl⟩
  rw [← hV]
  have hz := HNR.out
  have hal := HAL.out
  clear HNR HAL
  rw [← hV] at hz hal
  generalize World.setRow _ V _ = w1 at *
  rw [hV] at hal
  have HV := Lib.hid hz
  have HVX := Lib.hid (show X + 1 < V from by have := (Array.getElem?_eq_some_iff.1 HZ1.out).1; omega)
  have HZ1 := Lib.hid ((hal.block (X + 1) (Array.getElem?_eq_some_iff.1 HZ1.out).1).trans HZ1.out)
  have HB := Lib.hid (HB.out.trans (hal.mono HB.out.size))
  have HT := Lib.hid (HT.out.below hal)
  have c2 : w1.cell? ⟨V, 2, none⟩ = some (.int .u32 z.raw.tx.ver) := cell_at hz
  have c3 : w1.cell? ⟨V, 3, none⟩ = some (.slice ja n3 jc) := cell_at hz
  have c4 : w1.cell? ⟨V, 4, none⟩ = some (.slice qa n4 qc) := cell_at hz
  have c5 : w1.cell? ⟨V, 5, none⟩ = some (.int .u32 z.raw.tx.lock) := cell_at hz
  clear hz hal hV HZ0
  go_wp2_with fail
  refine (cut_any _ z.raw.tx 4 w1 HT.out (by omega)).mono ?_
  rintro e w2 ⟨v, rfl, hown, hb⟩
  clear c2 c3 c4 c5 HT
  have HSW := Lib.hid HB.out.size
  have HVL := Lib.hid (show V < w1.heap.size from (Array.getElem?_eq_some_iff.1 HV.out).1)
  have HV := Lib.hid ((hb.block V (Array.getElem?_eq_some_iff.1 HV.out).1).trans HV.out)
  have HZ1 := Lib.hid ((hb.block (X + 1) (Array.getElem?_eq_some_iff.1 HZ1.out).1).trans HZ1.out)
  have HB := Lib.hid (HB.out.trans (hb.mono HB.out.size))
  have hct : (cutTx 4 z.raw.tx).outs.length ≤ 1000 := by show ((z.raw.tx.outs.take 4).map cutOut).length ≤ 1000; rw [List.length_map, List.length_take]; omega
  obtain ⟨ct, hcte⟩ : ∃ t, t = cutTx 4 z.raw.tx := ⟨_, rfl⟩
  rw [← hcte] at hown hct
  have HCT := Lib.hid hct
  clear hcte hb hct
  obtain ⟨ta, tb, rfl, hta, htb, -, -⟩ := hown.tx
  have HO := Lib.hid hown
  obtain ⟨iA, iC, rfl, -, -⟩ := hta.shape
  obtain ⟨oA, oC, rfl, -, -⟩ := htb.shape
  obtain ⟨m1, hm1⟩ : ∃ q, q = ct.ins.length := ⟨_, rfl⟩
  obtain ⟨m2, hm2⟩ : ∃ q, q = ct.outs.length := ⟨_, rfl⟩
  rw [← hm1, ← hm2] at HO
  rw [← hm1, ← hm2]
  clear hown hta htb hm1 hm2
  have c2 : w2.cell? ⟨V, 2, none⟩ = some (.int .u32 z.raw.tx.ver) := cell_at HV.out
  have f2 : w2.frozen? ⟨V, 2, none⟩ = false := free_at HV.out
  have c3 : w2.cell? ⟨V, 3, none⟩ = some (.slice ja n3 jc) := cell_at HV.out
  have f3 : w2.frozen? ⟨V, 3, none⟩ = false := free_at HV.out
  have c4 : w2.cell? ⟨V, 4, none⟩ = some (.slice qa n4 qc) := cell_at HV.out
  have f4 : w2.frozen? ⟨V, 4, none⟩ = false := free_at HV.out
  have c5 : w2.cell? ⟨V, 5, none⟩ = some (.int .u32 z.raw.tx.lock) := cell_at HV.out
  have f5 : w2.frozen? ⟨V, 5, none⟩ = false := free_at HV.out
  go_upto_region 4 with fail
  change Code.wp _ _ _ _ (stores w2 V [(2, .int .u32 ct.ver), (3, .slice iA m1 iC), (4, .slice oA m2 oC), (5, .int .u32 ct.lock)])
  obtain ⟨s1, s2, s3⟩ := stores_spec [(2, .int .u32 ct.ver), (3, .slice iA m1 iC), (4, .slice oA m2 oC), (5, .int .u32 ct.lock)] HV.out
  have HV := Lib.hid (show (stores w2 V [(2, .int .u32 ct.ver), (3, .slice iA m1 iC), (4, .slice oA m2 oC), (5, .int .u32 ct.lock)]).heap[V]? = some (.cells #[.int .i64 z.raw.kind, .int .i64 z.raw.num, .int .u32 ct.ver, .slice iA m1 iC, .slice oA m2 oC, .int .u32 ct.lock, .int .i64 z.raw.index, .string z.raw.id, .int .u32 z.raw.idx, .int .i64 z.raw.val, .int .i64 z.raw.br, .int .u16 z.raw.tag, .int .u16 z.raw.delay, .int .u32 z.raw.height, .int .i64 z.raw.dead, .int .i64 z.raw.budget, .int .i64 z.raw.start, .int .i64 z.raw.fee] 35 (0, 0)) from s1)
  have HZ1 := Lib.hid ((s2 (X + 1) (by have := HVX.out; omega)).trans HZ1.out)
  have HB := Lib.hid (HB.out.trans (s3 w.heap.size (by have := HX.out; have := HVX.out; omega)))
  have HF := Lib.hid (stores_fr (b := V) (F := [V, X + 1]) (by simp) [(2, .int .u32 ct.ver), (3, .slice iA m1 iC), (4, .slice oA m2 oC), (5, .int .u32 ct.lock)] w2)
  clear s1 s2 s3 c2 f2 c3 f3 c4 f4 c5 f5
  generalize stores w2 V [(2, .int .u32 ct.ver), (3, .slice iA m1 iC), (4, .slice oA m2 oC), (5, .int .u32 ct.lock)] = w3 at *
  have c7 : w3.cell? ⟨V, 7, none⟩ = some (.string z.raw.id) := cell_at HV.out
  have f7 : w3.frozen? ⟨V, 7, none⟩ = false := free_at HV.out
  have hid : z.raw.id.size ≤ 9223372036854775807 := HK.out.raw.id
  by_cases hbig : (40 : Int) < (z.raw.id.size : Int)
  · have h40 : (40 : Int) ≤ (z.raw.id.size : Int) := by omega
    obtain ⟨s1, s2, s3⟩ := stores_spec [(7, .string (z.raw.id.extract 0 40))] HV.out
    have HV := Lib.hid (show (stores w3 V [(7, .string (z.raw.id.extract 0 40))]).heap[V]? = some (.cells #[.int .i64 z.raw.kind, .int .i64 z.raw.num, .int .u32 ct.ver, .slice iA m1 iC, .slice oA m2 oC, .int .u32 ct.lock, .int .i64 z.raw.index, .string (z.raw.id.extract 0 40), .int .u32 z.raw.idx, .int .i64 z.raw.val, .int .i64 z.raw.br, .int .u16 z.raw.tag, .int .u16 z.raw.delay, .int .u32 z.raw.height, .int .i64 z.raw.dead, .int .i64 z.raw.budget, .int .i64 z.raw.start, .int .i64 z.raw.fee] 35 (0, 0)) from s1)
    have HZ1 := Lib.hid ((s2 (X + 1) (by have := HVX.out; omega)).trans HZ1.out)
    have HB := Lib.hid (HB.out.trans (s3 w.heap.size (by have := HX.out; have := HVX.out; omega)))
    have HF := Lib.hid (HF.out.trans' (stores_fr (b := V) (F := [V, X + 1]) (by simp) [(7, .string (z.raw.id.extract 0 40))] w3))
    clear s1 s2 s3
    go_upto_region 6 with fail
    change Code.wp _ _ _ _ (stores w3 V [(7, .string (z.raw.id.extract 0 40))])
    generalize stores w3 V [(7, .string (z.raw.id.extract 0 40))] = w4 at *
    clear c7 f7
    go_wp2_with (first | (refine wpList_load_row rfl 35 (.tmp 3) rfl V rfl 35 _ (0, 0) _ HV.out Tryz.underlying35 rfl (by kernel_rfl) ?_) | (refine wpList_store_row rfl 35 (.tmp 2) (.tmp 27) rfl (X + 1) #[.int .i64 z.raw.kind, .int .i64 z.raw.num, .int .u32 ct.ver, .slice iA m1 iC, .slice oA m2 oC, .int .u32 ct.lock, .int .i64 z.raw.index, .string (z.raw.id.extract 0 40), .int .u32 z.raw.idx, .int .i64 z.raw.val, .int .i64 z.raw.br, .int .u16 z.raw.tag, .int .u16 z.raw.delay, .int .u32 z.raw.height, .int .i64 z.raw.dead, .int .i64 z.raw.budget, .int .i64 z.raw.start, .int .i64 z.raw.fee] rfl rfl 35 _ HZ1.out (by kernel_rfl) rfl (by kernel_rfl) ?_))
    refine bodyPost_ret (v := .agg #[.int .i64 z.raw.kind, .int .i64 z.raw.num, .int .u32 ct.ver, .slice iA m1 iC, .slice oA m2 oC, .int .u32 ct.lock, .int .i64 z.raw.index, .string (z.raw.id.extract 0 40), .int .u32 z.raw.idx, .int .i64 z.raw.val, .int .i64 z.raw.br, .int .u16 z.raw.tag, .int .u16 z.raw.delay, .int .u32 z.raw.height, .int .i64 z.raw.dead, .int .i64 z.raw.budget, .int .i64 z.raw.start, .int .i64 z.raw.fee]) (results_cell1 (P := Tryz.prog) (p := 2) (ty := 35) Tryz.results9 _ _ (X + 1) 35 #[.int .i64 z.raw.kind, .int .i64 z.raw.num, .int .u32 ct.ver, .slice iA m1 iC, .slice oA m2 oC, .int .u32 ct.lock, .int .i64 z.raw.index, .string (z.raw.id.extract 0 40), .int .u32 z.raw.idx, .int .i64 z.raw.val, .int .i64 z.raw.br, .int .u16 z.raw.tag, .int .u16 z.raw.delay, .int .u32 z.raw.height, .int .i64 z.raw.dead, .int .i64 z.raw.budget, .int .i64 z.raw.start, .int .i64 z.raw.fee] (0, 0) _ rfl (setRow_heap _ (X + 1) _ _ _ _ HZ1.out) Tryz.underlying35 rfl (by kernel_rfl)) rfl ?_
    have hfr := HF.out.trans' (Fr.row (F := [V, X + 1]) w4 (X + 1) #[.int .i64 z.raw.kind, .int .i64 z.raw.num, .int .u32 ct.ver, .slice iA m1 iC, .slice oA m2 oC, .int .u32 ct.lock, .int .i64 z.raw.index, .string (z.raw.id.extract 0 40), .int .u32 z.raw.idx, .int .i64 z.raw.val, .int .i64 z.raw.br, .int .u16 z.raw.tag, .int .u16 z.raw.delay, .int .u32 z.raw.height, .int .i64 z.raw.dead, .int .i64 z.raw.budget, .int .i64 z.raw.start, .int .i64 z.raw.fee] (by simp))
    have hown := HO.out.fr hfr (by intro j hj; simp at hj; have := HVL.out; have := HVX.out; omega)
    have hk := HK.out.raw
    refine ⟨_, { z.raw with tx := ct, id := z.raw.id.extract 0 40 }, rfl, ⟨_, _, rfl, hown.base HSW.out, ⟨hk.kind, hk.num, HO.out.ver, HO.out.lock, hk.index, by show (ByteArray.extract _ _ _).size ≤ _; rw [ByteArray.size_extract]; omega, hk.idx, hk.val, hk.br, hk.tag, hk.delay, hk.height, hk.dead, hk.budget, hk.start, hk.fee⟩⟩, HCT.out, below_rowE HB.out (by have := HX.out; omega) _⟩
  · clear f7
    go_upto_region 6 with fail
    clear c7
    go_wp2_with (first | (refine wpList_load_row rfl 35 (.tmp 3) rfl V rfl 35 _ (0, 0) _ HV.out Tryz.underlying35 rfl (by kernel_rfl) ?_) | (refine wpList_store_row rfl 35 (.tmp 2) (.tmp 27) rfl (X + 1) #[.int .i64 z.raw.kind, .int .i64 z.raw.num, .int .u32 ct.ver, .slice iA m1 iC, .slice oA m2 oC, .int .u32 ct.lock, .int .i64 z.raw.index, .string z.raw.id, .int .u32 z.raw.idx, .int .i64 z.raw.val, .int .i64 z.raw.br, .int .u16 z.raw.tag, .int .u16 z.raw.delay, .int .u32 z.raw.height, .int .i64 z.raw.dead, .int .i64 z.raw.budget, .int .i64 z.raw.start, .int .i64 z.raw.fee] rfl rfl 35 _ HZ1.out (by kernel_rfl) rfl (by kernel_rfl) ?_))
    refine bodyPost_ret (v := .agg #[.int .i64 z.raw.kind, .int .i64 z.raw.num, .int .u32 ct.ver, .slice iA m1 iC, .slice oA m2 oC, .int .u32 ct.lock, .int .i64 z.raw.index, .string z.raw.id, .int .u32 z.raw.idx, .int .i64 z.raw.val, .int .i64 z.raw.br, .int .u16 z.raw.tag, .int .u16 z.raw.delay, .int .u32 z.raw.height, .int .i64 z.raw.dead, .int .i64 z.raw.budget, .int .i64 z.raw.start, .int .i64 z.raw.fee]) (results_cell1 (P := Tryz.prog) (p := 2) (ty := 35) Tryz.results9 _ _ (X + 1) 35 #[.int .i64 z.raw.kind, .int .i64 z.raw.num, .int .u32 ct.ver, .slice iA m1 iC, .slice oA m2 oC, .int .u32 ct.lock, .int .i64 z.raw.index, .string z.raw.id, .int .u32 z.raw.idx, .int .i64 z.raw.val, .int .i64 z.raw.br, .int .u16 z.raw.tag, .int .u16 z.raw.delay, .int .u32 z.raw.height, .int .i64 z.raw.dead, .int .i64 z.raw.budget, .int .i64 z.raw.start, .int .i64 z.raw.fee] (0, 0) _ rfl (setRow_heap _ (X + 1) _ _ _ _ HZ1.out) Tryz.underlying35 rfl (by kernel_rfl)) rfl ?_
    have hfr := HF.out.trans' (Fr.row (F := [V, X + 1]) w3 (X + 1) #[.int .i64 z.raw.kind, .int .i64 z.raw.num, .int .u32 ct.ver, .slice iA m1 iC, .slice oA m2 oC, .int .u32 ct.lock, .int .i64 z.raw.index, .string z.raw.id, .int .u32 z.raw.idx, .int .i64 z.raw.val, .int .i64 z.raw.br, .int .u16 z.raw.tag, .int .u16 z.raw.delay, .int .u32 z.raw.height, .int .i64 z.raw.dead, .int .i64 z.raw.budget, .int .i64 z.raw.start, .int .i64 z.raw.fee] (by simp))
    have hown := HO.out.fr hfr (by intro j hj; simp at hj; have := HVL.out; have := HVX.out; omega)
    have hk := HK.out.raw
    refine ⟨_, { z.raw with tx := ct, id := z.raw.id }, rfl, ⟨_, _, rfl, hown.base HSW.out, ⟨hk.kind, hk.num, HO.out.ver, HO.out.lock, hk.index, hk.id, hk.idx, hk.val, hk.br, hk.tag, hk.delay, hk.height, hk.dead, hk.budget, hk.start, hk.fee⟩⟩, HCT.out, below_rowE HB.out (by have := HX.out; omega) _⟩
end Go.Proofs.YtaooibocknemkaaGreat
end

section
namespace Go.Proofs.YtaooibocknemkaaGreat
open Go.RowKit Go.BigFrame
set_option linter.unusedVariables false
set_option linter.unusedSimpArgs false
end Go.Proofs.YtaooibocknemkaaGreat
end
