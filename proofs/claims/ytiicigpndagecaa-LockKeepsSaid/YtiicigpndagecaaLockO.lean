/-
  Arguments of the locks' laws, read as plain data. Conditions: none.
-/
import Derived.Test.YtiicigpndagecaaLockA
namespace Go.Proofs.Ytiicigpndagecaa
open Go.RowKit Go.ChangeShapes Go.WideShapes
set_option linter.unusedVariables false

section
variable {H : Type} {enc : TypeId × Value → H} {w : World} {spare : Nat → Bool} {held : Bool}

theorem rp_of_br {fuel : Nat} {cs : List Value} {y : DataW H × List MemPlace} (h : DataW.trod enc Try.prog w 0 spare held fuel 51 cs = some y) : ∃ x, rpBr.at_ w cs x := by
  obtain ⟨xs, n, _, _, hl, hlen, hf⟩ := DataW.trod_struct Try.underlying51 h
  have hc : Try.prog.cellsOf 51 = 3 := by kernel_rfl
  rw [hc] at hl
  match cs, hl with
  | [c0, c1, c2], _ =>
    have hlen' : xs.length = 3 := hlen
    have g0 := hf 0 _ rfl
    have g1 := hf 1 _ rfl
    have g2 := hf 2 _ rfl
    rw [List.getElem?_eq_getElem (by omega)] at g0 g1 g2
    obtain ⟨n0, e0, w0⟩ := rp_of_int Try.underlying42 g0
    obtain ⟨n1, e1, w1⟩ := rp_of_int Try.underlying42 g1
    obtain ⟨n2, e2, w2⟩ := rp_of_int Try.underlying23 g2
    have k1 : Try.prog.cellsOf 42 = 1 := by kernel_rfl
    have k2 : Try.prog.cellsOf 23 = 1 := by kernel_rfl
    have e0' : ([c0, c1, c2].drop 0).take (Try.prog.cellsOf 42) = [.int .u16 n0] := e0
    have e1' : ([c0, c1, c2].drop 1).take (Try.prog.cellsOf 42) = [.int .u16 n1] := e1
    have e2' : ([c0, c1, c2].drop 2).take (Try.prog.cellsOf 23) = [.int .u32 n2] := e2
    rw [k1] at e0' e1'
    rw [k2] at e2'
    have f0 : c0 = .int .u16 n0 := by simpa using e0'
    have f1 : c1 = .int .u16 n1 := by simpa using e1'
    have f2 : c2 = .int .u32 n2 := by simpa using e2'
    have b0 : 0 ≤ n0 ∧ n0 ≤ 65535 := wf_u16 w0
    have b1 : 0 ≤ n1 ∧ n1 ≤ 65535 := wf_u16 w1
    have b2 : 0 ≤ n2 ∧ n2 ≤ 4294967295 := wf_u32 w2
    refine ⟨⟨n0.toNat, n1.toNat, n2.toNat⟩, ?_, ⟨by dsimp only; omega, by dsimp only; omega, by dsimp only; omega⟩⟩
    dsimp only
    rw [f0, f1, f2, show ((n0.toNat : Nat) : Int) = n0 by omega, show ((n1.toNat : Nat) : Int) = n1 by omega, show ((n2.toNat : Nat) : Int) = n2 by omega]
end

theorem open_brs {H : Type} {enc : TypeId × Value → H} {w : World} {v : Value} {d : DataW H} {ps : List MemPlace} (hv : Value.okWide Try.prog w .any 0 22 v) (h : DataW.Trod enc Try.prog w 0 (fun _ => true) true 22 v d ps) :
    ∃ l : List PBr, SlAt rpBr w v l := by
  obtain ⟨a, l, c, rfl⟩ := Go.WideShapes.okWide_slice Try.underlying22 hv
  obtain ⟨fuel, hf⟩ := h
  obtain ⟨xs, v', hv', hs⟩ := rp_of_slice (R := rpBr) Try.underlying22 (by kernel_rfl) (by decide) (fun _ _ _ => rp_of_br) hf
  simp [Value.cells] at hv'
  subst hv'
  exact ⟨xs, hs⟩

end Go.Proofs.Ytiicigpndagecaa
