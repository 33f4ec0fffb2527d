/-
  The claim laws' inputs, as they are handed in. Conditions: none.
-/
import Derived.Test.YtmakghcoehkphaaGreatKj
namespace Go.Proofs.YtmakghcoehkphaaGreat
open Go.RowKit Go.ChangeShapes Go.WideShapes
set_option linter.unusedVariables false
set_option linter.unusedSimpArgs false
section
variable {H : Type} {enc : TypeId × Value → H} {w : World} {spare : Nat → Bool} {held : Bool}
set_option maxRecDepth 100000 in
theorem rp_of_branch {fuel : Nat} {cs : List Value} {y : DataW H × List MemPlace} (h : DataW.trod enc Tryz.prog w 0 spare held fuel 32 cs = some y) : ∃ x : PBr, cs = [.int .u16 x.tag, .int .u16 x.delay, .int .u32 x.height] ∧ x.Ok := by
  obtain ⟨xs, n, _, _, hl, hlen, hf⟩ := DataW.trod_struct Tryz.underlying32 h
  have hc : Tryz.prog.cellsOf 32 = 3 := by kernel_rfl
  rw [hc] at hl
  match cs, hl with
  | [c0, c1, c2], _ =>
    have hlen' : xs.length = 3 := hlen
    have g0 := hf 0 _ rfl
    have g1 := hf 1 _ rfl
    have g2 := hf 2 _ rfl
    rw [List.getElem?_eq_getElem (by omega)] at g0 g1 g2
    obtain ⟨n0, e0, w0⟩ := rp_of_int Tryz.underlying26 g0
    have k0 : Tryz.prog.cellsOf 26 = 1 := by kernel_rfl
    have e0' : ([c0, c1, c2].drop 0).take (Tryz.prog.cellsOf 26) = [.int .u16 n0] := e0
    rw [k0] at e0'
    obtain ⟨n1, e1, w1⟩ := rp_of_int Tryz.underlying26 g1
    have k1 : Tryz.prog.cellsOf 26 = 1 := by kernel_rfl
    have e1' : ([c0, c1, c2].drop 1).take (Tryz.prog.cellsOf 26) = [.int .u16 n1] := e1
    rw [k1] at e1'
    obtain ⟨n2, e2, w2⟩ := rp_of_int Tryz.underlying23 g2
    have k2 : Tryz.prog.cellsOf 23 = 1 := by kernel_rfl
    have e2' : ([c0, c1, c2].drop 2).take (Tryz.prog.cellsOf 23) = [.int .u32 n2] := e2
    rw [k2] at e2'
    have f0 : c0 = .int .u16 n0 := by simpa using e0'
    have f1 : c1 = .int .u16 n1 := by simpa using e1'
    have f2 : c2 = .int .u32 n2 := by simpa using e2'
    have b0 : 0 ≤ n0 ∧ n0 ≤ 65535 := wf_u16 w0
    have b1 : 0 ≤ n1 ∧ n1 ≤ 65535 := wf_u16 w1
    have b2 : 0 ≤ n2 ∧ n2 ≤ 4294967295 := wf_u32 w2
    refine ⟨⟨n0.toNat, n1.toNat, n2.toNat⟩, ?_, ⟨by dsimp only; omega, by dsimp only; omega, by dsimp only; omega⟩⟩
    dsimp only
    rw [f0, f1, f2, show ((n0.toNat : Nat) : Int) = n0 by omega, show ((n1.toNat : Nat) : Int) = n1 by omega, show ((n2.toNat : Nat) : Int) = n2 by omega]
set_option maxRecDepth 100000 in
theorem rp_of_claim {fuel : Nat} {cs : List Value} {y : DataW H × List MemPlace} (h : DataW.trod enc Tryz.prog w 0 spare held fuel 34 cs = some y) : ∃ x : PCl, cs = [.string x.id, .int .u32 x.idx, .int .i64 x.val, .int .i64 x.br, .int .u16 x.lock.tag, .int .u16 x.lock.delay, .int .u32 x.lock.height, .int .i64 x.dead] ∧ x.Ok := by
  obtain ⟨xs, n, _, _, hl, hlen, hf⟩ := DataW.trod_struct Tryz.underlying34 h
  have hc : Tryz.prog.cellsOf 34 = 8 := by kernel_rfl
  rw [hc] at hl
  match cs, hl with
  | [c0, c1, c2, c3, c4, c5, c6, c7], _ =>
    have hlen' : xs.length = 5 := hlen
    have g0 := hf 0 _ rfl
    have g1 := hf 1 _ rfl
    have g2 := hf 2 _ rfl
    have g3 := hf 3 _ rfl
    have g4 := hf 4 _ rfl
    rw [List.getElem?_eq_getElem (by omega)] at g0 g1 g2 g3 g4
    obtain ⟨s0, n0, e0, w0, v0⟩ := rp_of_point g0
    have k0 : Tryz.prog.cellsOf 25 = 2 := by kernel_rfl
    have e0' : ([c0, c1, c2, c3, c4, c5, c6, c7].drop 0).take (Tryz.prog.cellsOf 25) = [.string s0, .int .u32 n0] := e0
    rw [k0] at e0'
    obtain ⟨n1, e1, w1⟩ := rp_of_int Tryz.underlying3 g1
    have k1 : Tryz.prog.cellsOf 3 = 1 := by kernel_rfl
    have e1' : ([c0, c1, c2, c3, c4, c5, c6, c7].drop 2).take (Tryz.prog.cellsOf 3) = [.int .i64 n1] := e1
    rw [k1] at e1'
    obtain ⟨n2, e2, w2⟩ := rp_of_int Tryz.underlying3 g2
    have k2 : Tryz.prog.cellsOf 3 = 1 := by kernel_rfl
    have e2' : ([c0, c1, c2, c3, c4, c5, c6, c7].drop 3).take (Tryz.prog.cellsOf 3) = [.int .i64 n2] := e2
    rw [k2] at e2'
    obtain ⟨x3, e3, w3⟩ := rp_of_branch g3
    have k3 : Tryz.prog.cellsOf 32 = 3 := by kernel_rfl
    have e3' : ([c0, c1, c2, c3, c4, c5, c6, c7].drop 4).take (Tryz.prog.cellsOf 32) = [.int .u16 x3.tag, .int .u16 x3.delay, .int .u32 x3.height] := e3
    rw [k3] at e3'
    obtain ⟨n4, e4, w4⟩ := rp_of_int Tryz.underlying3 g4
    have k4 : Tryz.prog.cellsOf 3 = 1 := by kernel_rfl
    have e4' : ([c0, c1, c2, c3, c4, c5, c6, c7].drop 7).take (Tryz.prog.cellsOf 3) = [.int .i64 n4] := e4
    rw [k4] at e4'
    obtain ⟨f0, f1⟩ : c0 = .string s0 ∧ c1 = .int .u32 n0 := by simpa using e0'
    have f2 : c2 = .int .i64 n1 := by simpa using e1'
    have f3 : c3 = .int .i64 n2 := by simpa using e2'
    obtain ⟨f4, f5, f6⟩ : c4 = .int .u16 x3.tag ∧ c5 = .int .u16 x3.delay ∧ c6 = .int .u32 x3.height := by simpa using e3'
    have f7 : c7 = .int .i64 n4 := by simpa using e4'
    refine ⟨⟨s0, n0, n1, n2, x3, n4⟩, ?_, ⟨w0, v0, wf_i64 w1, wf_i64 w2, w3, wf_i64 w4⟩⟩
    dsimp only
    rw [f0, f1, f2, f3, f4, f5, f6, f7]
theorem rp_of_cls {fuel : Nat} {cs : List Value} {y : DataW H × List MemPlace} (h : DataW.trod enc Tryz.prog w 0 spare held fuel 22 cs = some y) : ∃ l : List PCl, (rpSl rpCl).at_ w cs l :=
  rp_of_slice Tryz.underlying22 (by kernel_rfl) (by decide) (fun fuel cs y h => by obtain ⟨x, h1, h2⟩ := rp_of_claim h; exact ⟨x, h1, h2⟩) h
set_option maxRecDepth 100000 in
theorem rp_of_rw {fuel : Nat} {cs : List Value} {y : DataW H × List MemPlace} (h : DataW.trod enc Tryz.prog w 0 spare held fuel 28 cs = some y) : ∃ (v : Value) (l : List PCl) (x : PRw), cs = (rwCells v x).toList ∧ SlAt rpCl w v l ∧ x.Ok := by
  obtain ⟨xs, n, _, _, hl, hlen, hf⟩ := DataW.trod_struct Tryz.underlying28 h
  have hc : Tryz.prog.cellsOf 28 = 7 := by kernel_rfl
  rw [hc] at hl
  match cs, hl with
  | [c0, c1, c2, c3, c4, c5, c6], _ =>
    have hlen' : xs.length = 6 := hlen
    have g0 := hf 0 _ rfl
    have g1 := hf 1 _ rfl
    have g2 := hf 2 _ rfl
    have g3 := hf 3 _ rfl
    have g4 := hf 4 _ rfl
    have g5 := hf 5 _ rfl
    rw [List.getElem?_eq_getElem (by omega)] at g0 g1 g2 g3 g4 g5
    obtain ⟨l, v, e0, hsl⟩ := rp_of_cls g0
    have k0 : Tryz.prog.cellsOf 22 = 1 := by kernel_rfl
    have e0' : ([c0, c1, c2, c3, c4, c5, c6].drop 0).take (Tryz.prog.cellsOf 22) = [v] := e0
    rw [k0] at e0'
    obtain ⟨s1, n1, e1, w1, v1⟩ := rp_of_point g1
    have k1 : Tryz.prog.cellsOf 25 = 2 := by kernel_rfl
    have e1' : ([c0, c1, c2, c3, c4, c5, c6].drop 1).take (Tryz.prog.cellsOf 25) = [.string s1, .int .u32 n1] := e1
    rw [k1] at e1'
    obtain ⟨n2, e2, w2⟩ := rp_of_int Tryz.underlying3 g2
    have k2 : Tryz.prog.cellsOf 3 = 1 := by kernel_rfl
    have e2' : ([c0, c1, c2, c3, c4, c5, c6].drop 3).take (Tryz.prog.cellsOf 3) = [.int .i64 n2] := e2
    rw [k2] at e2'
    obtain ⟨n3, e3, w3⟩ := rp_of_int Tryz.underlying26 g3
    have k3 : Tryz.prog.cellsOf 26 = 1 := by kernel_rfl
    have e3' : ([c0, c1, c2, c3, c4, c5, c6].drop 4).take (Tryz.prog.cellsOf 26) = [.int .u16 n3] := e3
    rw [k3] at e3'
    obtain ⟨n4, e4, w4⟩ := rp_of_int Tryz.underlying3 g4
    have k4 : Tryz.prog.cellsOf 3 = 1 := by kernel_rfl
    have e4' : ([c0, c1, c2, c3, c4, c5, c6].drop 5).take (Tryz.prog.cellsOf 3) = [.int .i64 n4] := e4
    rw [k4] at e4'
    obtain ⟨n5, e5⟩ := rp_of_bool Tryz.underlying4 g5
    have k5 : Tryz.prog.cellsOf 4 = 1 := by kernel_rfl
    have e5' : ([c0, c1, c2, c3, c4, c5, c6].drop 6).take (Tryz.prog.cellsOf 4) = [.bool n5] := e5
    rw [k5] at e5'
    have f0 : c0 = v := by simpa using e0'
    obtain ⟨f1, f2⟩ : c1 = .string s1 ∧ c2 = .int .u32 n1 := by simpa using e1'
    have f3 : c3 = .int .i64 n2 := by simpa using e2'
    have f4 : c4 = .int .u16 n3 := by simpa using e3'
    have f5 : c5 = .int .i64 n4 := by simpa using e4'
    have f6 : c6 = .bool n5 := by simpa using e5'
    have b3 : 0 ≤ n3 ∧ n3 ≤ 65535 := wf_u16 w3
    refine ⟨v, l, ⟨s1, n1, n2, n3.toNat, n4, n5⟩, ?_, hsl, ⟨w1, v1, wf_i64 w2, by dsimp only; omega, wf_i64 w4⟩⟩
    unfold rwCells
    dsimp only
    rw [f0, f1, f2, f3, f4, f5, f6, show ((n3.toNat : Nat) : Int) = n3 by omega]
end
/-- The law's raw argument, as it lies in memory. -/
def RawAt (w : World) (v : Value) (q : Value × List PCl × PRw) : Prop := v = .agg (rwCells q.1 q.2.2) ∧ SlAt rpCl w q.1 q.2.1 ∧ q.2.2.Ok
set_option maxRecDepth 100000 in
theorem open_rwq {H : Type} {enc : TypeId × Value → H} {w : World} {v : Value} {d : DataW H} {ps : List MemPlace} (hv : Value.okWide Tryz.prog w .any 0 28 v) (h : DataW.Trod enc Tryz.prog w 0 (fun _ => true) true 28 v d ps) :
    ∃ q : Value × List PCl × PRw, RawAt w v q := by
  obtain ⟨cs, rfl, -⟩ := Go.WideShapes.okWide_struct Tryz.underlying28 hv
  obtain ⟨fuel, hf⟩ := h
  obtain ⟨u, l, x, hx, hs, ho⟩ := rp_of_rw hf
  refine ⟨(u, l, x), ?_, hs, ho⟩
  simp only [Value.cells] at hx
  rw [show cs = rwCells u x from by apply Array.ext'; exact hx]
end Go.Proofs.YtmakghcoehkphaaGreat
