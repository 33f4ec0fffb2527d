/-
  ChildBuilds, part 6: the texts Co, ChildBuildsLaw, one after another. Conditions: none beyond those named at each.
-/
import Derived.Test.YtmakghcoehkphaaQ5ChildBuilds
import Derived.Test.YtmakghcoehkphaaRows
import Derived.ProofKit
import Derived.OpenShut
import Derived.ShutString
import Derived.ChangeOld
import Derived.Below
section
/-
  The law's inputs, as they are handed in. Conditions: none.
-/
namespace Go.Proofs.Ytmakghcoehkphaa
open Go.RowKit Go.ChangeShapes Go.WideShapes
set_option linter.unusedVariables false
set_option linter.unusedSimpArgs false
section
variable {H : Type} {enc : TypeId × Value → H} {w : World} {spare : Nat → Bool} {held : Bool}
set_option maxRecDepth 100000 in
theorem rp_of_branch {fuel : Nat} {cs : List Value} {y : DataW H × List MemPlace} (h : DataW.trod enc Try.prog w 0 spare held fuel 27 cs = some y) : ∃ x : PBr, cs = [.int .u16 x.tag, .int .u16 x.delay, .int .u32 x.height] ∧ x.Ok := by
  obtain ⟨xs, n, _, _, hl, hlen, hf⟩ := DataW.trod_struct Try.underlying27 h
  have hc : Try.prog.cellsOf 27 = 3 := by kernel_rfl
  rw [hc] at hl
  match cs, hl with
  | [c0, c1, c2], _ =>
    have hlen' : xs.length = 3 := hlen
    have g0 := hf 0 _ rfl
    have g1 := hf 1 _ rfl
    have g2 := hf 2 _ rfl
    rw [List.getElem?_eq_getElem (by omega)] at g0 g1 g2
    obtain ⟨n0, e0, w0⟩ := rp_of_int Try.underlying25 g0
    have k0 : Try.prog.cellsOf 25 = 1 := by kernel_rfl
    have e0' : ([c0, c1, c2].drop 0).take (Try.prog.cellsOf 25) = [.int .u16 n0] := e0
    rw [k0] at e0'
    obtain ⟨n1, e1, w1⟩ := rp_of_int Try.underlying25 g1
    have k1 : Try.prog.cellsOf 25 = 1 := by kernel_rfl
    have e1' : ([c0, c1, c2].drop 1).take (Try.prog.cellsOf 25) = [.int .u16 n1] := e1
    rw [k1] at e1'
    obtain ⟨n2, e2, w2⟩ := rp_of_int Try.underlying22 g2
    have k2 : Try.prog.cellsOf 22 = 1 := by kernel_rfl
    have e2' : ([c0, c1, c2].drop 2).take (Try.prog.cellsOf 22) = [.int .u32 n2] := e2
    rw [k2] at e2'
    have f0 : c0 = .int .u16 n0 := by simpa using e0'
    have f1 : c1 = .int .u16 n1 := by simpa using e1'
    have f2 : c2 = .int .u32 n2 := by simpa using e2'
    have b0 : 0 ≤ n0 ∧ n0 ≤ 65535 := wf_u16 w0
    have b1 : 0 ≤ n1 ∧ n1 ≤ 65535 := wf_u16 w1
    have b2 : 0 ≤ n2 ∧ n2 ≤ 4294967295 := wf_u32 w2
    refine ⟨⟨n0.toNat, n1.toNat, n2.toNat⟩, ?_, ⟨by dsimp only; omega, by dsimp only; omega, by dsimp only; omega⟩⟩
    dsimp only
    rw [f0, f1, f2, show ((n0.toNat : Nat) : Int) = n0 by omega, show ((n1.toNat : Nat) : Int) = n1 by omega, show ((n2.toNat : Nat) : Int) = n2 by omega]
set_option maxRecDepth 100000 in
theorem rp_of_claim {fuel : Nat} {cs : List Value} {y : DataW H × List MemPlace} (h : DataW.trod enc Try.prog w 0 spare held fuel 29 cs = some y) : ∃ x : PCl, cs = [.string x.id, .int .u32 x.idx, .int .i64 x.val, .int .i64 x.br, .int .u16 x.lock.tag, .int .u16 x.lock.delay, .int .u32 x.lock.height, .int .i64 x.dead] ∧ x.Ok := by
  obtain ⟨xs, n, _, _, hl, hlen, hf⟩ := DataW.trod_struct Try.underlying29 h
  have hc : Try.prog.cellsOf 29 = 8 := by kernel_rfl
  rw [hc] at hl
  match cs, hl with
  | [c0, c1, c2, c3, c4, c5, c6, c7], _ =>
    have hlen' : xs.length = 5 := hlen
    have g0 := hf 0 _ rfl
    have g1 := hf 1 _ rfl
    have g2 := hf 2 _ rfl
    have g3 := hf 3 _ rfl
    have g4 := hf 4 _ rfl
    rw [List.getElem?_eq_getElem (by omega)] at g0 g1 g2 g3 g4
    obtain ⟨s0, n0, e0, w0, v0⟩ := rp_of_point g0
    have k0 : Try.prog.cellsOf 24 = 2 := by kernel_rfl
    have e0' : ([c0, c1, c2, c3, c4, c5, c6, c7].drop 0).take (Try.prog.cellsOf 24) = [.string s0, .int .u32 n0] := e0
    rw [k0] at e0'
    obtain ⟨n1, e1, w1⟩ := rp_of_int Try.underlying3 g1
    have k1 : Try.prog.cellsOf 3 = 1 := by kernel_rfl
    have e1' : ([c0, c1, c2, c3, c4, c5, c6, c7].drop 2).take (Try.prog.cellsOf 3) = [.int .i64 n1] := e1
    rw [k1] at e1'
    obtain ⟨n2, e2, w2⟩ := rp_of_int Try.underlying3 g2
    have k2 : Try.prog.cellsOf 3 = 1 := by kernel_rfl
    have e2' : ([c0, c1, c2, c3, c4, c5, c6, c7].drop 3).take (Try.prog.cellsOf 3) = [.int .i64 n2] := e2
    rw [k2] at e2'
    obtain ⟨x3, e3, w3⟩ := rp_of_branch g3
    have k3 : Try.prog.cellsOf 27 = 3 := by kernel_rfl
    have e3' : ([c0, c1, c2, c3, c4, c5, c6, c7].drop 4).take (Try.prog.cellsOf 27) = [.int .u16 x3.tag, .int .u16 x3.delay, .int .u32 x3.height] := e3
    rw [k3] at e3'
    obtain ⟨n4, e4, w4⟩ := rp_of_int Try.underlying3 g4
    have k4 : Try.prog.cellsOf 3 = 1 := by kernel_rfl
    have e4' : ([c0, c1, c2, c3, c4, c5, c6, c7].drop 7).take (Try.prog.cellsOf 3) = [.int .i64 n4] := e4
    rw [k4] at e4'
    obtain ⟨f0, f1⟩ : c0 = .string s0 ∧ c1 = .int .u32 n0 := by simpa using e0'
    have f2 : c2 = .int .i64 n1 := by simpa using e1'
    have f3 : c3 = .int .i64 n2 := by simpa using e2'
    obtain ⟨f4, f5, f6⟩ : c4 = .int .u16 x3.tag ∧ c5 = .int .u16 x3.delay ∧ c6 = .int .u32 x3.height := by simpa using e3'
    have f7 : c7 = .int .i64 n4 := by simpa using e4'
    refine ⟨⟨s0, n0, n1, n2, x3, n4⟩, ?_, ⟨w0, v0, wf_i64 w1, wf_i64 w2, w3, wf_i64 w4⟩⟩
    dsimp only
    rw [f0, f1, f2, f3, f4, f5, f6, f7]
set_option maxRecDepth 100000 in
theorem rp_of_raw {fuel : Nat} {cs : List Value} {y : DataW H × List MemPlace} (h : DataW.trod enc Try.prog w 0 spare held fuel 31 cs = some y) : ∃ x : PRaw, cs = (rawCells x).toList ∧ x.Ok := by
  obtain ⟨xs, n, _, _, hl, hlen, hf⟩ := DataW.trod_struct Try.underlying31 h
  have hc : Try.prog.cellsOf 31 = 14 := by kernel_rfl
  rw [hc] at hl
  match cs, hl with
  | [c0, c1, c2, c3, c4, c5, c6, c7, c8, c9, c10, c11, c12, c13], _ =>
    have hlen' : xs.length = 6 := hlen
    have g0 := hf 0 _ rfl
    have g1 := hf 1 _ rfl
    have g2 := hf 2 _ rfl
    have g3 := hf 3 _ rfl
    have g4 := hf 4 _ rfl
    have g5 := hf 5 _ rfl
    rw [List.getElem?_eq_getElem (by omega)] at g0 g1 g2 g3 g4 g5
    obtain ⟨x0, e0, w0⟩ := rp_of_claim g0
    have k0 : Try.prog.cellsOf 29 = 8 := by kernel_rfl
    have e0' : ([c0, c1, c2, c3, c4, c5, c6, c7, c8, c9, c10, c11, c12, c13].drop 0).take (Try.prog.cellsOf 29) = [.string x0.id, .int .u32 x0.idx, .int .i64 x0.val, .int .i64 x0.br, .int .u16 x0.lock.tag, .int .u16 x0.lock.delay, .int .u32 x0.lock.height, .int .i64 x0.dead] := e0
    rw [k0] at e0'
    obtain ⟨s1, n1, e1, w1, v1⟩ := rp_of_point g1
    have k1 : Try.prog.cellsOf 24 = 2 := by kernel_rfl
    have e1' : ([c0, c1, c2, c3, c4, c5, c6, c7, c8, c9, c10, c11, c12, c13].drop 8).take (Try.prog.cellsOf 24) = [.string s1, .int .u32 n1] := e1
    rw [k1] at e1'
    obtain ⟨n2, e2, w2⟩ := rp_of_int Try.underlying3 g2
    have k2 : Try.prog.cellsOf 3 = 1 := by kernel_rfl
    have e2' : ([c0, c1, c2, c3, c4, c5, c6, c7, c8, c9, c10, c11, c12, c13].drop 10).take (Try.prog.cellsOf 3) = [.int .i64 n2] := e2
    rw [k2] at e2'
    obtain ⟨n3, e3, w3⟩ := rp_of_int Try.underlying25 g3
    have k3 : Try.prog.cellsOf 25 = 1 := by kernel_rfl
    have e3' : ([c0, c1, c2, c3, c4, c5, c6, c7, c8, c9, c10, c11, c12, c13].drop 11).take (Try.prog.cellsOf 25) = [.int .u16 n3] := e3
    rw [k3] at e3'
    obtain ⟨n4, e4, w4⟩ := rp_of_int Try.underlying3 g4
    have k4 : Try.prog.cellsOf 3 = 1 := by kernel_rfl
    have e4' : ([c0, c1, c2, c3, c4, c5, c6, c7, c8, c9, c10, c11, c12, c13].drop 12).take (Try.prog.cellsOf 3) = [.int .i64 n4] := e4
    rw [k4] at e4'
    obtain ⟨n5, e5⟩ := rp_of_bool Try.underlying4 g5
    have k5 : Try.prog.cellsOf 4 = 1 := by kernel_rfl
    have e5' : ([c0, c1, c2, c3, c4, c5, c6, c7, c8, c9, c10, c11, c12, c13].drop 13).take (Try.prog.cellsOf 4) = [.bool n5] := e5
    rw [k5] at e5'
    obtain ⟨f0, f1, f2, f3, f4, f5, f6, f7⟩ : c0 = .string x0.id ∧ c1 = .int .u32 x0.idx ∧ c2 = .int .i64 x0.val ∧ c3 = .int .i64 x0.br ∧ c4 = .int .u16 x0.lock.tag ∧ c5 = .int .u16 x0.lock.delay ∧ c6 = .int .u32 x0.lock.height ∧ c7 = .int .i64 x0.dead := by simpa using e0'
    obtain ⟨f8, f9⟩ : c8 = .string s1 ∧ c9 = .int .u32 n1 := by simpa using e1'
    have f10 : c10 = .int .i64 n2 := by simpa using e2'
    have f11 : c11 = .int .u16 n3 := by simpa using e3'
    have f12 : c12 = .int .i64 n4 := by simpa using e4'
    have f13 : c13 = .bool n5 := by simpa using e5'
    have b3 : 0 ≤ n3 ∧ n3 ≤ 65535 := wf_u16 w3
    refine ⟨⟨x0, s1, n1, n2, n3.toNat, n4, n5⟩, ?_, ⟨w0, w1, v1, wf_i64 w2, by dsimp only; omega, wf_i64 w4⟩⟩
    unfold rawCells
    dsimp only
    rw [f0, f1, f2, f3, f4, f5, f6, f7, f8, f9, f10, f11, f12, f13, show ((n3.toNat : Nat) : Int) = n3 by omega]
end
set_option maxRecDepth 100000 in
theorem open_raw {H : Type} {enc : TypeId × Value → H} {w : World} {v : Value} {d : DataW H} {ps : List MemPlace} (hv : Value.okWide Try.prog w .any 0 31 v) (h : DataW.Trod enc Try.prog w 0 (fun _ => true) true 31 v d ps) :
    ∃ z : PRaw, v = .agg (rawCells z) ∧ z.Ok := by
  obtain ⟨cs, rfl, -⟩ := Go.WideShapes.okWide_struct Try.underlying31 hv
  obtain ⟨fuel, hf⟩ := h
  obtain ⟨x, hx, ho⟩ := rp_of_raw hf
  refine ⟨x, ?_, ho⟩
  simp only [Value.cells] at hx
  rw [show cs = rawCells x from by apply Array.ext'; exact hx]
end Go.Proofs.Ytmakghcoehkphaa
end

section
/-
  ChildBuilds returns true for every input, and each argument reads behind the call as before. Conditions: none beyond the statement's own.
-/
namespace Go.Proofs.Ytmakghcoehkphaa.childBuildsDone
open Go.ChangeShapes Go.WideShapes Go.ChangeAt Go.RowKit
open Go.ChangeMaps (open_string shut_string)
set_option linter.unusedVariables false

theorem own : ownKnob Try.prog.godebug = none := by kernel_rfl
theorem laidOut : laidOutB Try.prog = true := by kernel_rfl

set_option maxRecDepth 100000 in
theorem lifted (os : Os) (started : os.Started) (H : Type) (enc : TypeId × Value → H) :
    ReturnsInHanded {} Try.checked os 3 .any (Rows.childBuildsSpec.pre6 enc Try.prog Try.f3 Rows.childBuildsRow.domain false) (Rows.childBuildsSpec.post enc Try.prog Try.f3 false true false false) := by
  refine returnsInHanded_of_change (C := Try.checked) own started (by kernel_rfl) Try.func3
    (ChangeSpec.witness6 (enc := enc) (C := Try.checked) false ⟨#[], #[.agg #[.string ByteArray.empty, .int .u32 0, .int .i64 0, .int .i64 0, .int .u16 0, .int .u16 0, .int .u32 0, .int .i64 0, .string ByteArray.empty, .int .u32 0, .int .i64 0, .int .u16 0, .int .i64 0, .bool false]], []⟩ 8 (by kernel_rfl) (by kernel_rfl) (by kernel_rfl) (by kernel_rfl)) ?_
  intro W base args ds gs before hval0 hW hcnd _
  have hval : ∀ (j : Nat) t v, Try.f3.params[j]? = some t → args[j]? = some v → Value.okWide Try.prog W .any base t v := hval0
  have hW' := hW
  obtain ⟨p, q, hA0, hV, rfl, hfz, hnd⟩ := hW
  have hA : DataW.TrodAll enc Try.prog W 0 (fun _ => true) true Try.f3.params.toList args.toList ds p := hA0
  rw [Try.params3] at hA hval
  obtain ⟨v0, vs0, d0, ds0, p0, q0, hargs, rfl, rfl, h0, r0⟩ := trodAll_cons hA
  obtain ⟨rfl, rfl, rfl⟩ := trodAll_nil r0
  obtain rfl : args = #[v0] := by cases args; simp_all
  obtain ⟨rfl, rfl⟩ := trodVars_none hV
  have k0 := h0
  have lt0 : ∀ x ∈ p0, x.block < W.heap.size := by obtain ⟨m, hm⟩ := k0; exact DataW.trod_lt m _ _ _ hm
  obtain ⟨a0, w0⟩ := open_raw (hval 0 31 v0 rfl rfl) h0
  clear hA0 hval0
  refine (childBuilds_walk v0 a0 W w0).mono fun e W' ⟨he, bel⟩ => ?_
  subst he
  exact ⟨_, rfl, _, _, _, [], _, [], hW', trodAll_mk1 (shut_bool Try.underlying4 _), (trodAll_cons_mk (Below.trod laidOut (by kernel_rfl) (of_decide_eq_true (by kernel_rfl)) k0 bel lt0) trodAll_mk0), rfl, bel.frame _, fun h => by cases h⟩

theorem proved : Rows.ChildBuildsSaid :=
  OpenClaim.holds_of_wide 3 Try.f3 rfl rfl rfl rfl rfl rfl rfl ⟨rfl, rfl, rfl, rfl, rfl⟩ rfl rfl rfl rfl rfl (by kernel_rfl) Try.func3 (by kernel_rfl)
    (of_decide_eq_true (by kernel_rfl)) (by unfold Func.isWrapper; first | (rw [if_pos (by decide +kernel)]; kernel_rfl) | (rw [if_neg (by decide +kernel)]; exact ⟨rfl, rfl⟩))
    (fun os started H enc _ => lifted os started H enc)

#print axioms proved
end Go.Proofs.Ytmakghcoehkphaa.childBuildsDone
end
