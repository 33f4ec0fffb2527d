/-
  slices.Clone of Outs and Ins, tx.Grant. Conditions: no more than a thousand elements.
-/
import Derived.Test.YtelindgnkpfkiaaGreatDoorQ4CheckFeesCard
import Derived.Test.YtelindgnkpfkiaaGreatDoorCut
import Derived.Deep.RegionHeld
import Derived.Deep.DrawnRows
namespace Go.Proofs.YtelindgnkpfkiaaGreatDoor
open Go.RowKit Go.BigFrame
set_option linter.unusedVariables false
set_option linter.unusedSimpArgs false

theorem slCells_out {w : World} {a : Option Addr} {n c : Nat} {l : List POut} (h : SlAt rpOut w (.slice a n c) l) (hn : 0 < n) : ∃ b o, a = some ⟨b, o, none⟩ ∧ (∀ j u, (outsCells l)[j]? = some u → w.cell? ⟨b, o + j, none⟩ = some u) ∧ ∀ x ∈ l, OkOut x := by
  obtain ⟨hlen, -, -⟩ := h.len
  obtain ⟨b, o, x0, rfl, -, -, -, -⟩ := h.outp hn
  refine ⟨b, o, rfl, fun j u hj => ?_, fun x hx => ?_⟩
  · have hjl : j < l.length * 2 := by have := (List.getElem?_eq_some_iff.1 hj).1; rw [outsCells_len] at this; exact this
    obtain ⟨b2, o2, x, hbo, hx, hok, d0, d1⟩ := h.outp (i := j / 2) (by omega)
    obtain ⟨rfl, rfl⟩ : b = b2 ∧ o = o2 := by simpa using hbo
    rcases Nat.mod_two_eq_zero_or_one j with hm | hm
    · have e : j = j / 2 * 2 + 0 := by omega
      have := flat_at outRow 2 outRow_len l (j / 2) x hx 0 (by omega)
      unfold outsCells at hj
      rw [e, this] at hj
      have hu : u = .int .i64 x.val := by simpa [outRow] using hj.symm
      rw [hu, ← d0]
      congr 2
      omega
    · have e : j = j / 2 * 2 + 1 := by omega
      have := flat_at outRow 2 outRow_len l (j / 2) x hx 1 (by omega)
      unfold outsCells at hj
      rw [e, this] at hj
      have hu : u = .string x.script := by simpa [outRow] using hj.symm
      rw [hu, ← d1]
      congr 2
      omega
  · obtain ⟨i, hi⟩ := List.mem_iff_getElem?.1 hx
    obtain ⟨_, _, y, _, hy, hok, _, _⟩ := h.outp (i := i) (by rw [← hlen]; exact (List.getElem?_eq_some_iff.1 hi).1)
    rw [hi] at hy
    obtain rfl := Option.some.inj hy
    exact hok
theorem outs_oneCell (l : List POut) : ∀ u ∈ outsCells l, u.oneCell' = true := by
  intro u hu
  unfold outsCells at hu
  rw [List.mem_flatMap] at hu
  obtain ⟨x, -, hx⟩ := hu
  simp [outRow] at hx
  rcases hx with rfl | rfl <;> rfl

/-- A copy of Outs in a row of the call's own. -/
def ClOutIs (l : List POut) (w : World) (e : Ending) (w' : World) : Prop := ∃ v, e = .returned v ∧ OutsOwn w.heap.size w' v l ∧ Below w.heap.size w w'
set_option maxRecDepth 100000 in
set_option maxHeartbeats 1000000 in
theorem clOut_any (v : Value) (l : List POut) (w : World) (hv : SlAt rpOut w v l) (hlen : l.length ≤ 1000) : Calls Tryz.prog 57 #[v] w (ClOutIs l w) := by
  obtain ⟨a, c, rfl, hl1, hl2⟩ := hv.shape
  rw [maxLen_eq] at hl2
  by_cases hnil : a = none
  · subst hnil
    have hl0 : l = [] := by
      match l, hv with
      | [], _ => rfl
      | x :: r, h =>
        obtain ⟨b, o, -, hbo, -⟩ := h.outp (show 0 < (x :: r).length by simp)
        cases hbo
    subst hl0
    have HF := Lib.hid (show ClOutIs [] w (.returned (.slice none 0 0)) w from ⟨_, rfl, outsOwn_nil _ _, Below.refl _ _⟩)
    have heq : ∀ w : World, (binOp .eql 24 (.slice none 0 c) (.slice none 0 0)).run Tryz.prog w = .ok (.bool true) w := fun w => by kernel_rfl
    clear hv
    go_enter Tryz.func57, Tryz.ntmps57
    go_wp2_with fail
    go_ret
    exact HF.out
  · obtain ⟨ad, rfl⟩ := Option.ne_none_iff_exists'.1 hnil
    clear hnil
    have heq : ∀ w : World, (binOp .eql 24 (.slice (some ad) l.length c) (.slice none 0 0)).run Tryz.prog w = .ok (.bool false) w := fun w => by kernel_rfl
    have hcl : (∀ j u, (outsCells l)[j]? = some u → w.cell? (ad.add j) = some u) ∧ ∀ x ∈ l, OkOut x := by
      rcases Nat.eq_zero_or_pos l.length with h0 | h0
      · have : l = [] := List.eq_nil_of_length_eq_zero h0
        subst this
        exact ⟨fun j u h => by simp [outsCells] at h, fun x h => by simp at h⟩
      · obtain ⟨b, o, hbo, h1, h2⟩ := slCells_out hv h0
        obtain rfl := Option.some.inj hbo
        exact ⟨fun j u h => by rw [Addr.add_lit]; exact h1 j u h, h2⟩
    obtain ⟨i0, hi, hz0, hz1, hz2⟩ := info_parts info_out
    have hal : Below w.heap.size w (w.alloc (.cells #[] 48)) := (Below.refl _ _).alloc (Nat.le_refl _) _
    have hrow : (w.alloc (.cells #[] 48)).ownsRow w.heap.size 48 2 (.slice (some ⟨w.heap.size, 0, none⟩) 0 0) 0 [] :=
      ⟨rfl, .inr ⟨w.heap.size, 0, #[], rfl, Nat.le_refl _, heap_alloc_new w _, Nat.le_refl _, Nat.zero_le _, rfl, rfl⟩⟩
    obtain ⟨v', w', hrun, hown, hg, -⟩ := append_own_src (P := Tryz.prog) (w.alloc (.cells #[] 48)) w.heap.size 24 24 24 48 i0 _ 2 24 Tryz.underlying24 hi hz0 hz1 hz2 rfl _ 0 [] hrow (.slice (some ad) l.length c) l.length (outsCells l)
      (Src.ofSlice _ Tryz.underlying24 ad l.length c (outsCells l) (outsCells_len l) (fun j u h => below_cells hal _ _ (hcl.1 j u h)) (outs_oneCell l)) (by rw [maxLen_eq]; omega) (by omega) hal.size
    have HF := Lib.hid (show ClOutIs l w (.returned v') w' from by
      refine ⟨_, rfl, ⟨?_, hcl.2⟩, hal.grown hg hal.size (fun k h => by cases h; exact Nat.le_refl _)⟩
      rw [Nat.zero_add, List.nil_append] at hown
      exact hown)
    have HR := Lib.hid hrun
    clear hrun hown hg hrow hal hi hz0 hz1 hz2 hcl hv
    go_enter Tryz.func57, Tryz.ntmps57
    go_wp2_with (at_builtin; refine wpList_append_run rfl (.tmp 5) (.tmp 6) 24 24 rfl rfl rfl HR.out ?_)
    go_ret
    exact HF.out

theorem insOwn_one {base : Nat} {w : World} {b : Nat} {x : PIn} (hx : x.wit = []) (hb : base ≤ b) (h : w.heap[b]? = some (.cells #[.string x.id, .int .u32 x.idx, .int .u32 x.seq, .slice none 0 0] 56 (0, 0))) (ho : OkIn x) :
    InsOwn base w (.slice (some ⟨b, 0, none⟩) 1 1) [(x, .slice none 0 0)] := by
  have one : ∀ (i : Nat) (p : PIn × Value), [(x, Value.slice none 0 0)][i]? = some p → p = (x, .slice none 0 0) := fun i p hp => by
    match i, hp with
    | 0, hp => exact (Option.some.inj hp).symm
  refine ⟨⟨rfl, .inr ⟨b, 1, _, rfl, hb, h, Nat.le_refl _, by rw [maxLen_eq]; omega, rfl, rfl⟩⟩, fun i p hp => ?_, fun i p hp => ?_, fun i p c hp hc => ?_, fun i j p q c hp hq hij hc => ?_⟩
  · rw [one i p hp]
    dsimp only
    rw [hx]
    exact World.ownsRow_nil _ _ _ _
  · rw [one i p hp]; exact ho
  · rw [one i p hp] at hc; cases hc
  · rw [one i p hp] at hc; cases hc
def grantTx (h : Int) (outs : List POut) : PTx := ⟨2, [⟨zeros32, 4294967295, 4294967295, []⟩], outs, (h % 4294967296).toNat⟩
def GrantIs (h : Int) (outs : List POut) (w : World) (e : Ending) (w' : World) : Prop := ∃ v, e = .returned v ∧ TxOwn w.heap.size w' v (grantTx h outs) ∧ Below w.heap.size w w'
end Go.Proofs.YtelindgnkpfkiaaGreatDoor
