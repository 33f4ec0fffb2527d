/-
  What is done to a reserve, as data, as it is handed in. Conditions: none.
-/
import Derived.Test.YtelindgnkpfkiaaVm
namespace Go.Proofs.Ytelindgnkpfkiaa
open Go.RowKit Go.ChangeShapes Go.WideShapes
set_option linter.unusedVariables false
set_option linter.unusedSimpArgs false
structure PAct where
  do_ : Nat
  key : Int
  need : Int
  id : ByteArray
  idx : Nat
  coins : List PCo
  odd : Bool
structure PAct.Ok (x : PAct) : Prop where
  do_ : x.do_ < 256
  key : -9223372036854775808 ≤ x.key ∧ x.key ≤ 9223372036854775807
  need : -9223372036854775808 ≤ x.need ∧ x.need ≤ 9223372036854775807
  id : x.id.size ≤ maxLen
  idx : x.idx < 4294967296
def rpAct : Rp PAct := ⟨7, fun w cs x => ∃ v, cs = [.int .u8 x.do_, .int .i64 x.key, .int .i64 x.need, .string x.id, .int .u32 x.idx, v, .bool x.odd] ∧ SlAt rpCo w v x.coins ∧ x.Ok, fun hw ⟨v, h1, h2, h3⟩ => ⟨v, h1, h2.mono hw, h3⟩⟩
theorem SlAt.act {w : World} {a : Option Addr} {n c i : Nat} {xs : List PAct} (h : SlAt rpAct w (.slice a n c) xs) (hi : i < n) : ∃ (b o : Nat) (x : PAct) (sa : Option Addr) (sn sc : Nat), a = some ⟨b, o, none⟩ ∧ xs[i]? = some x ∧ x.Ok ∧ SlAt rpCo w (.slice sa sn sc) x.coins ∧
    w.cell? ⟨b, o + i * 7, none⟩ = some (.int .u8 x.do_) ∧ w.cell? ⟨b, o + i * 7 + 1, none⟩ = some (.int .i64 x.key) ∧ w.cell? ⟨b, o + i * 7 + 2, none⟩ = some (.int .i64 x.need) ∧ w.cell? ⟨b, o + i * 7 + 3, none⟩ = some (.string x.id) ∧ w.cell? ⟨b, o + i * 7 + 4, none⟩ = some (.int .u32 x.idx) ∧
    w.cell? ⟨b, o + i * 7 + 5, none⟩ = some (.slice sa sn sc) ∧ w.cell? ⟨b, o + i * 7 + 6, none⟩ = some (.bool x.odd) := by
  obtain ⟨b, o, x, cs, h1, h2, h3, h4, v, h5, h6, h7⟩ := h.at hi
  subst h5
  obtain ⟨sa, sc, rfl, -, -⟩ := h6.shape
  exact ⟨b, o, x, sa, _, sc, h1, h2, h7, h6, h4 0 _ rfl, h4 1 _ rfl, h4 2 _ rfl, h4 3 _ rfl, h4 4 _ rfl, h4 5 _ rfl, h4 6 _ rfl⟩
section
variable {H : Type} {enc : TypeId × Value → H} {w : World} {spare : Nat → Bool} {held : Bool}
set_option maxRecDepth 100000 in
theorem rp_of_act {fuel : Nat} {cs : List Value} {y : DataW H × List MemPlace} (h : DataW.trod enc Try.prog w 0 spare held fuel 49 cs = some y) : ∃ x, rpAct.at_ w cs x := by
  obtain ⟨xs, n, _, _, hl, hlen, hf⟩ := DataW.trod_struct Try.underlying49 h
  have hc : Try.prog.cellsOf 49 = 7 := by kernel_rfl
  rw [hc] at hl
  match cs, hl with
  | [c0, c1, c2, c3, c4, c5, c6], _ =>
    have hlen' : xs.length = 6 := hlen
    have g0 := hf 0 _ rfl
    have g1 := hf 1 _ rfl
    have g2 := hf 2 _ rfl
    have g3 := hf 3 _ rfl
    have g4 := hf 4 _ rfl
    have g5 := hf 5 _ rfl
    rw [List.getElem?_eq_getElem (by omega)] at g0 g1 g2 g3 g4 g5
    have k8 : Try.prog.cellsOf 5 = 1 := by kernel_rfl
    have ki : Try.prog.cellsOf 3 = 1 := by kernel_rfl
    have kp : Try.prog.cellsOf 35 = 2 := by kernel_rfl
    have ks : Try.prog.cellsOf 22 = 1 := by kernel_rfl
    have kb : Try.prog.cellsOf 4 = 1 := by kernel_rfl
    obtain ⟨n0, e0, w0⟩ := rp_of_int Try.underlying5 g0
    obtain ⟨n1, e1, w1⟩ := rp_of_int Try.underlying3 g1
    obtain ⟨n2, e2, w2⟩ := rp_of_int Try.underlying3 g2
    obtain ⟨s3, n3, e3, w3, w3'⟩ := rp_of_point g3
    obtain ⟨ks4, v4, e4, w4⟩ := rp_of_slice (R := rpCo) Try.underlying22 (by kernel_rfl) (by decide) (fun _ _ _ => rp_of_co) g4
    obtain ⟨b5, e5⟩ := rp_of_bool Try.underlying4 g5
    have e0' : ([c0, c1, c2, c3, c4, c5, c6].drop 0).take (Try.prog.cellsOf 5) = [.int .u8 n0] := e0
    have e1' : ([c0, c1, c2, c3, c4, c5, c6].drop 1).take (Try.prog.cellsOf 3) = [.int .i64 n1] := e1
    have e2' : ([c0, c1, c2, c3, c4, c5, c6].drop 2).take (Try.prog.cellsOf 3) = [.int .i64 n2] := e2
    have e3' : ([c0, c1, c2, c3, c4, c5, c6].drop 3).take (Try.prog.cellsOf 35) = [.string s3, .int .u32 n3] := e3
    have e4' : ([c0, c1, c2, c3, c4, c5, c6].drop 5).take (Try.prog.cellsOf 22) = [v4] := e4
    have e5' : ([c0, c1, c2, c3, c4, c5, c6].drop 6).take (Try.prog.cellsOf 4) = [.bool b5] := e5
    rw [k8] at e0'
    rw [ki] at e1' e2'
    rw [kp] at e3'
    rw [ks] at e4'
    rw [kb] at e5'
    have f0 : c0 = .int .u8 n0 := by simpa using e0'
    have f1 : c1 = .int .i64 n1 := by simpa using e1'
    have f2 : c2 = .int .i64 n2 := by simpa using e2'
    obtain ⟨f3, f4⟩ : c3 = .string s3 ∧ c4 = .int .u32 n3 := by simpa using e3'
    have f5 : c5 = v4 := by simpa using e4'
    have f6 : c6 = .bool b5 := by simpa using e5'
    have b0 := wf_u8v w0
    refine ⟨⟨n0.toNat, n1, n2, s3, n3, ks4, b5⟩, v4, ?_, w4, ⟨by dsimp only; omega, wf_i64 w1, wf_i64 w2, w3, w3'⟩⟩
    dsimp only
    rw [f0, f1, f2, f3, f4, f5, f6, show ((n0.toNat : Nat) : Int) = n0 by omega]
end
set_option maxRecDepth 100000 in
theorem open_acts {H : Type} {enc : TypeId × Value → H} {w : World} {v : Value} {d : DataW H} {ps : List MemPlace} (hv : Value.okWide Try.prog w .any 0 46 v) (h : DataW.Trod enc Try.prog w 0 (fun _ => true) true 46 v d ps) :
    ∃ l : List PAct, SlAt rpAct w v l := by
  obtain ⟨a, n, c, rfl⟩ := Go.WideShapes.okWide_slice Try.underlying46 hv
  obtain ⟨fuel, hf⟩ := h
  obtain ⟨l, u, e, hu⟩ := rp_of_slice (R := rpAct) Try.underlying46 (by kernel_rfl) (by decide) (fun _ _ _ => rp_of_act) hf
  have e' : Value.slice a n c = u := by simpa [Value.cells] using e
  exact ⟨l, e' ▸ hu⟩
end Go.Proofs.Ytelindgnkpfkiaa
