/-
  How a list of acts that came in is read. Conditions: none.
-/
import Derived.Test.YtoekidgnnibihaaDiskY
namespace Go.Proofs.Ytoekidgnnibihaa
open Go.RowKit
set_option linter.unusedVariables false

theorem get_some {α : Type} {l : List α} {n i : Nat} (hl : l.length = n) (hi : i < n) : ∃ x, l[i]? = some x := ⟨l[i], List.getElem?_eq_getElem (by omega)⟩

theorem rp_of_act {H : Type} {enc : TypeId × Value → H} {w : World} {spare : Nat → Bool} {held : Bool} {fuel : Nat} {cs : List Value} {y : DataW H × List MemPlace}
    (h : DataW.trod enc Try.prog w 0 spare held fuel 40 cs = some y) : ∃ x, rpAct.at_ w cs x := by
  obtain ⟨xs, n, _, _, hl, hxl, hf⟩ := DataW.trod_struct Try.underlying40 h
  have hl3 : cs.length = 3 := hl.trans (by kernel_rfl)
  have hc1 : Try.prog.cellsOf 5 = 1 := by kernel_rfl
  have hc2 : Try.prog.cellsOf 9 = 1 := by kernel_rfl
  have hc3 : Try.prog.cellsOf 3 = 1 := by kernel_rfl
  match cs, hl3 with
  | [c0, c1, c2], _ =>
    have h0 := hf 0 _ rfl
    have h1 := hf 1 _ rfl
    have h2 := hf 2 _ rfl
    obtain ⟨y0, e0⟩ := get_some (i := 0) hxl (by decide)
    obtain ⟨y1, e1⟩ := get_some (i := 1) hxl (by decide)
    obtain ⟨y2, e2⟩ := get_some (i := 2) hxl (by decide)
    rw [e0] at h0
    rw [e1] at h1
    rw [e2] at h2
    simp [hc1] at h0
    simp [hc2] at h1
    simp [hc3] at h2
    obtain ⟨a, ha, wa⟩ := rp_of_int Try.underlying5 h0
    obtain ⟨s, hs, ws⟩ := rp_of_str Try.underlying9 h1
    obtain ⟨m, hm, wm⟩ := rp_of_int Try.underlying3 h2
    simp at ha hs hm
    subst ha hs hm
    exact ⟨⟨a, s, m⟩, rfl, wa, ws, wm⟩

theorem open_acts {H : Type} {enc : TypeId × Value → H} {w : World} {v : Value} {d : DataW H} {ps : List MemPlace} (hv : Value.okWide Try.prog w .any 0 36 v) (h : DataW.Trod enc Try.prog w 0 (fun _ => true) true 36 v d ps) :
    ∃ xs : List DAct, SlAt rpAct w v xs := by
  obtain ⟨a, l, c, rfl⟩ := Go.WideShapes.okWide_slice Try.underlying36 hv
  obtain ⟨fuel, hf⟩ := h
  obtain ⟨xs, v', hv', hs⟩ := rp_of_slice (R := rpAct) Try.underlying36 (by kernel_rfl) (by decide) (fun _ _ _ => rp_of_act) hf
  simp [Value.cells] at hv'
  subst hv'
  exact ⟨xs, hs⟩

theorem diskPlays_walk (v : Value) (xs : List DAct) (w : World) (hv : SlAt rpAct w v xs) :
    Calls Try.prog 5 #[v] w fun e w' => e = .returned (.bool true) ∧ Below w.heap.size w w' := plays_any v xs w hv

end Go.Proofs.Ytoekidgnnibihaa
