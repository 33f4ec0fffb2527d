/-
  ReserveBack's coins, as they are handed in. Conditions: none.
-/
import Derived.Test.YtelindgnkpfkiaaVl
namespace Go.Proofs.Ytelindgnkpfkiaa
open Go.RowKit Go.ChangeShapes Go.WideShapes
set_option linter.unusedVariables false
set_option linter.unusedSimpArgs false
theorem wf_u8v {n : Int} (h : (Lit.int .u8 n).wf = true) : 0 ≤ n ∧ n ≤ 255 := by simpa [Lit.wf, IntKind.min, IntKind.max, IntKind.signed, IntKind.bits] using h
section
variable {H : Type} {enc : TypeId × Value → H} {w : World} {spare : Nat → Bool} {held : Bool}
set_option maxRecDepth 100000 in
theorem rp_of_co {fuel : Nat} {cs : List Value} {y : DataW H × List MemPlace} (h : DataW.trod enc Try.prog w 0 spare held fuel 82 cs = some y) : ∃ x, rpCo.at_ w cs x := by
  obtain ⟨xs, n, _, _, hl, hlen, hf⟩ := DataW.trod_struct Try.underlying82 h
  have hc : Try.prog.cellsOf 82 = 4 := by kernel_rfl
  rw [hc] at hl
  match cs, hl with
  | [c0, c1, c2, c3], _ =>
    have hlen' : xs.length = 4 := hlen
    have g0 := hf 0 _ rfl
    have g1 := hf 1 _ rfl
    have g2 := hf 2 _ rfl
    have g3 := hf 3 _ rfl
    rw [List.getElem?_eq_getElem (by omega)] at g0 g1 g2 g3
    obtain ⟨n0, e0, w0⟩ := rp_of_int Try.underlying5 g0
    have k0 : Try.prog.cellsOf 5 = 1 := by kernel_rfl
    have e0' : ([c0, c1, c2, c3].drop 0).take (Try.prog.cellsOf 5) = [.int .u8 n0] := e0
    rw [k0] at e0'
    obtain ⟨n1, e1, w1⟩ := rp_of_int Try.underlying5 g1
    have k1 : Try.prog.cellsOf 5 = 1 := by kernel_rfl
    have e1' : ([c0, c1, c2, c3].drop 1).take (Try.prog.cellsOf 5) = [.int .u8 n1] := e1
    rw [k1] at e1'
    obtain ⟨n2, e2, w2⟩ := rp_of_int Try.underlying5 g2
    have k2 : Try.prog.cellsOf 5 = 1 := by kernel_rfl
    have e2' : ([c0, c1, c2, c3].drop 2).take (Try.prog.cellsOf 5) = [.int .u8 n2] := e2
    rw [k2] at e2'
    obtain ⟨n3, e3, w3⟩ := rp_of_int Try.underlying3 g3
    have k3 : Try.prog.cellsOf 3 = 1 := by kernel_rfl
    have e3' : ([c0, c1, c2, c3].drop 3).take (Try.prog.cellsOf 3) = [.int .i64 n3] := e3
    rw [k3] at e3'
    have f0 : c0 = .int .u8 n0 := by simpa using e0'
    have f1 : c1 = .int .u8 n1 := by simpa using e1'
    have f2 : c2 = .int .u8 n2 := by simpa using e2'
    have f3 : c3 = .int .i64 n3 := by simpa using e3'
    have b0 := wf_u8v w0
    have b1 := wf_u8v w1
    have b2 := wf_u8v w2
    refine ⟨⟨n0.toNat, n1.toNat, n2.toNat, n3⟩, ?_, ⟨by dsimp only; omega, by dsimp only; omega, by dsimp only; omega, wf_i64 w3⟩⟩
    dsimp only
    rw [f0, f1, f2, f3, show ((n0.toNat : Nat) : Int) = n0 by omega, show ((n1.toNat : Nat) : Int) = n1 by omega, show ((n2.toNat : Nat) : Int) = n2 by omega]
end
set_option maxRecDepth 100000 in
theorem open_cos {H : Type} {enc : TypeId × Value → H} {w : World} {v : Value} {d : DataW H} {ps : List MemPlace} (hv : Value.okWide Try.prog w .any 0 22 v) (h : DataW.Trod enc Try.prog w 0 (fun _ => true) true 22 v d ps) :
    ∃ l : List PCo, SlAt rpCo w v l := by
  obtain ⟨a, n, c, rfl⟩ := Go.WideShapes.okWide_slice Try.underlying22 hv
  obtain ⟨fuel, hf⟩ := h
  obtain ⟨l, u, e, hu⟩ := rp_of_slice (R := rpCo) Try.underlying22 (by kernel_rfl) (by decide) (fun _ _ _ => rp_of_co) hf
  have e' : Value.slice a n c = u := by simpa [Value.cells] using e
  exact ⟨l, e' ▸ hu⟩
end Go.Proofs.Ytelindgnkpfkiaa
