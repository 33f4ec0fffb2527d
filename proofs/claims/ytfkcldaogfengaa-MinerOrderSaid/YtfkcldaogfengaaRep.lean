/-
  How plain data lies in memory: strings, integers, bools, slices of anything; kept by whatever leaves the blocks that were there alone. Conditions: none beyond each lemma's own.
-/
import Derived.Test.YtfkcldaogfengaaBase
import Derived.ChangeArms
import Derived.ChangeShapes
import Derived.OpenShut
namespace Go.Proofs.Ytfkcldaogfengaa
open Go.RowKit
set_option linter.unusedVariables false

/-- A kind of data that lies in so many cells. -/
structure Rp (α : Type) where
  size : Nat
  at_ : World → List Value → α → Prop
  mono : ∀ {w w' : World} {cs : List Value} {x : α}, (∀ p v, w.cell? p = some v → w'.cell? p = some v) → at_ w cs x → at_ w' cs x

def rpStr : Rp ByteArray := ⟨1, fun _ cs s => cs = [.string s] ∧ s.size ≤ maxLen, fun _ h => h⟩
def rpBool : Rp Bool := ⟨1, fun _ cs b => cs = [.bool b], fun _ h => h⟩
def rpInt (k : IntKind) : Rp Int := ⟨1, fun _ cs n => cs = [.int k n] ∧ (Lit.int k n).wf = true, fun _ h => h⟩

/-- The elements of a slice: at each place the cells of one. -/
def SlAt {α : Type} (R : Rp α) (w : World) (v : Value) (xs : List α) : Prop :=
  ∃ a c, v = .slice a xs.length c ∧ xs.length ≤ c ∧ c ≤ maxLen ∧
    ∀ i x, xs[i]? = some x → ∃ b o cs, a = some ⟨b, o, none⟩ ∧ cs.length = R.size ∧ (∀ j u, cs[j]? = some u → w.cell? ⟨b, o + i * R.size + j, none⟩ = some u) ∧ R.at_ w cs x

def rpSl {α : Type} (R : Rp α) : Rp (List α) := ⟨1, fun w cs xs => ∃ v, cs = [v] ∧ SlAt R w v xs, fun hw ⟨v, hv, a, c, h1, h2, h3, h4⟩ =>
  ⟨v, hv, a, c, h1, h2, h3, fun i x hi => let ⟨b, o, cs, e1, e2, e3, e4⟩ := h4 i x hi; ⟨b, o, cs, e1, e2, fun j u hj => hw _ _ (e3 j u hj), R.mono hw e4⟩⟩⟩

theorem below_cells {w w' : World} (h : Below w.heap.size w w') : ∀ p v, w.cell? p = some v → w'.cell? p = some v := fun p v hp => by
  rw [h.cell (World.block_lt_of_cell? w p hp)]; exact hp
theorem SlAt.mono {α : Type} {R : Rp α} {w w' : World} {v : Value} {xs : List α} (h : SlAt R w v xs) (hw : ∀ p v, w.cell? p = some v → w'.cell? p = some v) : SlAt R w' v xs := by
  obtain ⟨a, c, h1, h2, h3, h4⟩ := h
  exact ⟨a, c, h1, h2, h3, fun i x hi => let ⟨b, o, cs, e1, e2, e3, e4⟩ := h4 i x hi; ⟨b, o, cs, e1, e2, fun j u hj => hw _ _ (e3 j u hj), R.mono hw e4⟩⟩
theorem SlAt.below {α : Type} {R : Rp α} {w w' : World} {v : Value} {xs : List α} (h : SlAt R w v xs) (hb : Below w.heap.size w w') : SlAt R w' v xs := h.mono (below_cells hb)

theorem list_of_each {α : Type} {Q : Nat → α → Prop} : ∀ {len : Nat}, (∀ i, i < len → ∃ x, Q i x) → ∃ xs : List α, xs.length = len ∧ ∀ i x, xs[i]? = some x → Q i x
  | 0, _ => ⟨[], rfl, fun i x hi => by simp at hi⟩
  | m + 1, each => by
    obtain ⟨xs, h1, h2⟩ := list_of_each (fun i hi => each i (Nat.lt_succ_of_lt hi) : ∀ i, i < m → _)
    obtain ⟨x, hx⟩ := each m (Nat.lt_succ_self m)
    refine ⟨xs ++ [x], by simp [h1], fun i y hi => ?_⟩
    rcases Nat.lt_or_ge i m with hlt | hge
    · rw [List.getElem?_append_left (by omega)] at hi
      exact h2 i y hi
    · rw [List.getElem?_append_right (by omega)] at hi
      have hi0 : i = m := by
        have := (List.getElem?_eq_some_iff.1 hi).1
        simp at this; omega
      subst hi0
      rw [h1, Nat.sub_self] at hi
      simp at hi
      subst hi
      exact hx

/-- The first elements. -/
theorem SlAt.shape {α : Type} {R : Rp α} {w : World} {v : Value} {xs : List α} (h : SlAt R w v xs) : ∃ a c, v = .slice a xs.length c ∧ xs.length ≤ c ∧ c ≤ maxLen := by
  obtain ⟨a, c, h1, h2, h3, _⟩ := h; exact ⟨a, c, h1, h2, h3⟩

section
variable {H : Type} {enc : TypeId × Value → H} {P : Program} {w : World} {spare : Nat → Bool} {held : Bool}

theorem rp_of_str {t : TypeId} {fuel : Nat} {cs : List Value} {y : DataW H × List MemPlace} (ht : P.underlying t = some .string) (h : DataW.trod enc P w 0 spare held fuel t cs = some y) : ∃ s, rpStr.at_ w cs s := by
  obtain ⟨s, h1, _, h2⟩ := DataW.trod_string ht h
  exact ⟨s, h1, h2⟩
theorem rp_of_int {t : TypeId} {k : IntKind} {fuel : Nat} {cs : List Value} {y : DataW H × List MemPlace} (ht : P.underlying t = some (.int k)) (h : DataW.trod enc P w 0 spare held fuel t cs = some y) : ∃ n, (rpInt k).at_ w cs n := by
  obtain ⟨n, h1, _, h2⟩ := DataW.trod_int ht h
  exact ⟨n, h1, h2⟩
theorem rp_of_bool {t : TypeId} {fuel : Nat} {cs : List Value} {y : DataW H × List MemPlace} (ht : P.underlying t = some .bool) (h : DataW.trod enc P w 0 spare held fuel t cs = some y) : ∃ b, rpBool.at_ w cs b := by
  obtain ⟨b, h1, _⟩ := DataW.trod_bool ht h
  exact ⟨b, h1⟩

theorem rp_of_slice {α : Type} {R : Rp α} {t e : TypeId} {fuel : Nat} {cs : List Value} {y : DataW H × List MemPlace} (ht : P.underlying t = some (.slice e)) (hs : P.cellsOf e = R.size) (hpos : 0 < R.size)
    (hE : ∀ fuel cs y, DataW.trod enc P w 0 spare held fuel e cs = some y → ∃ x, R.at_ w cs x)
    (h : DataW.trod enc P w 0 spare held fuel t cs = some y) : ∃ xs : List α, (rpSl R).at_ w cs xs := by
  rcases DataW.trod_slice ht h with ⟨rfl, _⟩ | ⟨a, len, cap, elems, rest, n, _, rfl, _, _, hlc, hcm, hel, hat, _, _⟩
  · exact ⟨[], _, rfl, none, 0, rfl, Nat.le_refl _, by simp, fun i x hi => by simp at hi⟩
  · rw [hs] at hat
    -- each element
    have each : ∀ i, i < len → ∃ x, ∃ cs, a.spot = none ∧ cs.length = R.size ∧ (∀ j u, cs[j]? = some u → w.cell? ⟨a.block, a.off + i * R.size + j, none⟩ = some u) ∧ R.at_ w cs x := by
      intro i hi
      have h1 := hat i hi
      rw [List.getElem?_eq_getElem (by omega)] at h1
      obtain ⟨cs, hcs, hx⟩ := Option.bind_eq_some_iff.1 h1
      obtain ⟨x, hx⟩ := hE n cs _ hx
      obtain ⟨_, hl, hc⟩ := World.cells?_some hcs
      have hspot : a.spot = none := by
        have h2 := hat 0 (by omega)
        rw [List.getElem?_eq_getElem (by omega)] at h2
        obtain ⟨cs0, hcs0, _⟩ := Option.bind_eq_some_iff.1 h2
        obtain ⟨_, hl0, hc0⟩ := World.cells?_some hcs0
        have h3 := hc0 0 (by omega)
        rw [List.getElem?_eq_getElem (by omega)] at h3
        simpa [Addr.add] using World.cell?_spot h3
      refine ⟨x, cs, hspot, hl, fun j u hj => ?_, hx⟩
      have hjl : j < R.size := by rw [← hl]; exact (List.getElem?_eq_some_iff.1 hj).1
      have h4 := hc j hjl
      have ha : a = ⟨a.block, a.off, none⟩ := by cases a; simp_all
      rw [ha, Addr.add_lit, Addr.add_lit] at h4
      rw [h4]; exact hj
    obtain ⟨xs, hxl, hxs⟩ := list_of_each each
    subst hxl
    refine ⟨xs, _, rfl, some a, cap, rfl, hlc, hcm, fun i x hi => ?_⟩
    obtain ⟨cs, h1, h2, h3, h4⟩ := hxs i x hi
    exact ⟨a.block, a.off, cs, by cases a; simp_all, h2, h3, h4⟩
end

/-! ### rows of the call's own: a store, another's store, the block -/
/-- A store into a row of one's own. -/
theorem ownsRow_set {w : World} {base e size n c b : Nat} {xs : List Value} (h : w.ownsRow base e size (.slice (some ⟨b, 0, none⟩) n c) n xs) {j : Nat} (hj : j < xs.length) (u : Value) :
    (w.setCell ⟨b, j, none⟩ u).ownsRow base e size (.slice (some ⟨b, 0, none⟩) n c) n (xs.set j u) := by
  refine ⟨by rw [List.length_set]; exact h.1, ?_⟩
  rcases h.2 with ⟨h1, h2⟩ | ⟨g, cap, cur, h1, hb, hg, h2, h3, h4, h5⟩
  · cases h1
  · obtain ⟨rfl, rfl⟩ : b = g ∧ c = cap := by simpa using h1
    have hl := h.1
    have hm : n * size ≤ c * size := Nat.mul_le_mul_right _ h2
    refine .inr ⟨b, c, cur.setIfInBounds j u, rfl, hb, heap_setCell_at hg, h2, h3, by simpa using h4, ?_⟩
    rw [Array.toList_setIfInBounds, List.take_set, h5]
theorem ownsRow_other {w : World} {base e size n : Nat} {v : Value} {xs : List Value} (h : w.ownsRow base e size v n xs) (p : Addr) (u : Value) (hp : v.ownBlock ≠ some p.block) : (w.setCell p u).ownsRow base e size v n xs :=
  ownsRow_of_block h fun k hk => Below.heap_setCell _ _ _ _ (fun e => hp (by rw [hk, e]))
/-- The block of a row that is not empty. -/
theorem ownsRow_some {w : World} {base e size n c : Nat} {a : Option Addr} {xs : List Value} (h : w.ownsRow base e size (.slice a n c) n xs) (hn : 0 < n) : ∃ b, a = some ⟨b, 0, none⟩ ∧ base ≤ b ∧ b < w.heap.size := by
  rcases h.2 with ⟨h1, h2⟩ | ⟨g, cap, cur, h1, hb, hg, h2, h3, h4, h5⟩
  · omega
  · obtain ⟨rfl, rfl⟩ : a = some ⟨g, 0, none⟩ ∧ c = cap := by simpa using h1
    exact ⟨g, rfl, hb, (Array.getElem?_eq_some_iff.1 hg).1⟩

theorem ownsRow_free {w : World} {base e size n m c b : Nat} {xs : List Value} (h : w.ownsRow base e size (.slice (some ⟨b, 0, none⟩) n c) m xs) (j : Nat) : w.frozen? ⟨b, j, none⟩ = false := by
  rcases h.2 with ⟨h1, h2⟩ | ⟨g, cap, cur, h1, hb, hg, h2, h3, h4, h5⟩
  · cases h1
  · obtain ⟨rfl, -, -⟩ : b = g ∧ n = m ∧ c = cap := by simpa using h1
    exact free_at hg

end Go.Proofs.Ytfkcldaogfengaa
