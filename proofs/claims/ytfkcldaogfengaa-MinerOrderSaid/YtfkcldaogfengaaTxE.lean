/-
  A transaction's counts, lengths and form. Conditions: no more than a thousand Outs.
-/
import Derived.Test.YtfkcldaogfengaaTxC
import Derived.Laws.EntriesVeiled
namespace Go.Proofs.Ytfkcldaogfengaa
open Go.RowKit Go.BigFrame
set_option linter.unusedVariables false
set_option linter.unusedSimpArgs false

def longIn (x : PIn) : Bool := x.wit.any fun s => decide (80 < s.size)
def countsOf (t : PTx) : Bool := ((decide (1 ≤ t.ins.length) && decide (t.ins.length ≤ 256)) && (decide (1 ≤ t.outs.length) && decide (t.outs.length ≤ 256))) && !t.ins.any fun x => decide (4 < x.wit.length)
def longOf (t : PTx) : Bool := (t.outs.any fun x => decide (40 < x.script.size)) || t.ins.any longIn
def formIn (n : Nat) (x : PIn) : Bool := decide (x.id.size = 32) && !(isBase x.id x.idx && decide (1 < n))
def formedOf (t : PTx) : Bool := t.ins.all (formIn t.ins.length)

/-- It returns this bool, and makes new blocks alone. -/
def BIs (b : Bool) (w : World) (e : Ending) (w' : World) : Prop := e = .returned (.bool b) ∧ Below w.heap.size w w'

theorem all_step {α : Type} {p : α → Bool} {xs : List α} {k : Nat} {x : α} (h : ∀ (j : Nat) (y : α), j < k → xs[j]? = some y → p y = true) (hx : xs[k]? = some x) (hp : p x = true) : ∀ (j : Nat) (y : α), j < k + 1 → xs[j]? = some y → p y = true := by
  intro j y hj hy
  rcases Nat.lt_or_ge j k with h1 | h1
  · exact h j y h1 hy
  · obtain rfl : j = k := by omega
    rw [hx] at hy
    obtain rfl := Option.some.inj hy
    exact hp
theorem all_no {α : Type} {p : α → Bool} {xs : List α} {k : Nat} {x : α} (hx : xs[k]? = some x) (hp : p x = false) : xs.all p = false := by
  cases h : xs.all p
  · rfl
  · rw [List.all_eq_true] at h
    rw [h x (List.mem_of_getElem? hx)] at hp
    cases hp
theorem all_yes {α : Type} {p : α → Bool} {xs : List α} {n : Nat} (hn : n = xs.length) (h : ∀ (j : Nat) (y : α), j < n → xs[j]? = some y → p y = true) : xs.all p = true := by
  rw [List.all_eq_true]
  intro x hx
  obtain ⟨j, hj, rfl⟩ := List.getElem_of_mem hx
  exact h j _ (by omega) (List.getElem?_eq_getElem hj)
end Go.Proofs.Ytfkcldaogfengaa
