/-
  Locks, the tenth part: the branch that a witness opens. Conditions: none beyond each theorem's own.
-/
import Derived.Test.YtmakghcoehkphaaLock9
namespace Go.Proofs.Ytmakghcoehkphaa
open Go.RowKit Go.BigFrame
set_option linter.unusedVariables false

theorem lget_none {s : ByteArray} (h : lockGet s = none) (hs : s.size ≤ 9223372036854775807) (w : World) : Calls Try.prog 68 #[.string s] w fun e w' => ∃ v, e = .returned (.tuple #[v, .int .i64 4]) ∧ Below w.heap.size w w' :=
  (lget_any s hs w).mono fun e w' ⟨v, h1, h2, h3, _⟩ => ⟨v, by rw [h1, h]; rfl, h3⟩
theorem lget_some {s : ByteArray} {l : List PBr} (h : lockGet s = some l) (hs : s.size ≤ 9223372036854775807) (w : World) : Calls Try.prog 68 #[.string s] w fun e w' => ∃ v, e = .returned (.tuple #[v, .int .i64 0]) ∧ SlAt rpBr w' v l ∧ (∀ k, v.ownBlock = some k → w.heap.size ≤ k) ∧ Below w.heap.size w w' :=
  (lget_any s hs w).mono fun e w' ⟨v, h1, h2, h3, h4⟩ => ⟨v, by rw [h1, h]; rfl, by rw [h] at h2; exact h2, h4, h3⟩
theorem lsig_none {v : Value} {ws : List ByteArray} {w : World} (h : signedOf ws = none) (hv : SlAt rpStr w v ws) : Calls Try.prog 69 #[v] w fun e w' => e = .returned (.tuple #[.int .i64 0, .int .u16 0, .int .i64 4]) ∧ Below w.heap.size w w' :=
  (signed_any v ws w hv).mono fun e w' ⟨h1, h3⟩ => ⟨by rw [h1, h]; rfl, h3⟩
theorem lsig_some {v : Value} {ws : List ByteArray} {w : World} {n t : Nat} (h : signedOf ws = some (n, t)) (hv : SlAt rpStr w v ws) : Calls Try.prog 69 #[v] w fun e w' => e = .returned (.tuple #[.int .i64 n, .int .u16 t, .int .i64 0]) ∧ Below w.heap.size w w' :=
  (signed_any v ws w hv).mono fun e w' ⟨h1, h3⟩ => ⟨by rw [h1, h]; rfl, h3⟩

/-- The branch that a witness opens, and whether it may. -/
def chosenOf (s : ByteArray) (ws : List ByteArray) : PBr × Bool :=
  match lockGet s, signedOf ws with
  | some l, some (n, t) => match l[n]? with | some x => (x, x.tag == 0 || x.tag == t) | none => (⟨0, 0, 0⟩, false)
  | _, _ => (⟨0, 0, 0⟩, false)
def brV (x : PBr) : Value := .agg #[.int .u16 x.tag, .int .u16 x.delay, .int .u32 x.height]
def ChosenIs (s : ByteArray) (ws : List ByteArray) (w : World) (e : Ending) (w' : World) : Prop := e = .returned (.tuple #[brV (chosenOf s ws).1, .bool (chosenOf s ws).2]) ∧ Below w.heap.size w w'
theorem chosen_is {s : ByteArray} {ws : List ByteArray} {w w' : World} {x : PBr} {b b' : Bool} (h : chosenOf s ws = (x, b)) (hbb : b' = b) (hb : Below w.heap.size w w') : ChosenIs s ws w (.returned (.tuple #[.agg #[.int .u16 x.tag, .int .u16 x.delay, .int .u32 x.height], .bool b'])) w' := by
  unfold ChosenIs; rw [h, hbb]; exact ⟨rfl, hb⟩
theorem signedOf_lt {ws : List ByteArray} {n t : Nat} (h : signedOf ws = some (n, t)) : n < 3 ∧ t < 65536 := by
  unfold signedOf at h
  split at h
  · rename_i x
    split at h
    · rename_i a b c hx
      split at h
      · rename_i h3
        obtain ⟨rfl, rfl⟩ : a.toNat = n ∧ b.toNat + 256 * c.toNat = t := by simpa using h
        have := b.toNat_lt
        have := c.toNat_lt
        exact ⟨h3, by omega⟩
      · cases h
    · cases h
  · cases h

theorem lsig_ex {v : Value} {ws : List ByteArray} {w : World} (hv : SlAt rpStr w v ws) : Calls Try.prog 69 #[v] w fun e w' => ∃ (n t x : Int), e = .returned (.tuple #[.int .i64 n, .int .u16 t, .int .i64 x]) ∧ Below w.heap.size w w' :=
  (signed_any v ws w hv).mono fun e w' ⟨h1, h3⟩ => ⟨_, _, _, h1, h3⟩

set_option maxRecDepth 100000 in
set_option maxHeartbeats 2000000 in
theorem chosen_any (s : ByteArray) (hs : s.size ≤ 9223372036854775807) (v : Value) (ws : List ByteArray) (w : World) (hv : SlAt rpStr w v ws) :
    Calls Try.prog 45 #[.string s, v] w (ChosenIs s ws w) := by
  obtain ⟨va, vc, rfl, -, -⟩ := hv.shape
  have HV := Lib.hid hv
  have hb0 : ∀ ob, Below w.heap.size w (w.alloc ob) := fun ob => (Below.refl _ _).alloc (Nat.le_refl _) ob
  have HB0 := Lib.hid hb0
  have hcl : ∀ ob w1, Below (w.alloc ob).heap.size (w.alloc ob) w1 → w1.heap[w.heap.size]? = some ob := fun ob w1 h => (h.block w.heap.size (by simp)).trans (heap_alloc_new w ob)
  have HCL := Lib.hid hcl
  clear hv hb0 hcl
  have hno : (lockGet s = none ∨ signedOf ws = none) → chosenOf s ws = (⟨0, 0, 0⟩, false) := by
    rintro (h | h) <;> unfold chosenOf <;> rw [h]
    split <;> rename_i h1 <;> simp_all
  have HNO := Lib.hid hno
  clear hno
  cases hg : lockGet s with
  | none =>
    have HC := Lib.hid (lget_none hg hs)
    have HG := Lib.hid hg
    clear hg
    go_enter Try.func45, Try.ntmps45
    go_wp2_with fail
    refine (HC.out _).mono ?_
    rintro e w1 ⟨u, rfl, hb1⟩
    have hblk := HCL.out _ _ hb1
    have hw1 := (HB0.out _).trans (hb1.mono (by simp))
    have HW1 := Lib.hid hw1
    have HK1 := Lib.hid hblk
    clear hb1 hblk hw1
    have HV1 := Lib.hid (HV.out.below HW1.out)
    go_wp2_with fail
    refine (lsig_ex HV1.out).mono ?_
    rintro e w2 ⟨n, t, x, rfl, hb2⟩
    have hblk2 : w2.heap[w.heap.size]? = some (.cells #[.int .u16 0, .int .u16 0, .int .u32 0] 27) := (hb2.block _ (Array.getElem?_eq_some_iff.1 HK1.out).1).trans HK1.out
    have c0 : w2.cell? ⟨w.heap.size, 0, none⟩ = some (.int .u16 0) := cell_at hblk2
    have c1 : w2.cell? ⟨w.heap.size, 1, none⟩ = some (.int .u16 0) := cell_at hblk2
    have c2 : w2.cell? ⟨w.heap.size, 2, none⟩ = some (.int .u32 0) := cell_at hblk2
    have f0 : w2.frozen? ⟨w.heap.size, 0, none⟩ = false := free_at hblk2
    have f1 : w2.frozen? ⟨w.heap.size, 1, none⟩ = false := free_at hblk2
    have f2 : w2.frozen? ⟨w.heap.size, 2, none⟩ = false := free_at hblk2
    have hw2 := HW1.out.trans (hb2.mono HW1.out.size)
    have HW2 := Lib.hid hw2
    clear hb2 hblk2 hw2
    go_wp2
    exact bodyPost_ret (v := .tuple #[.agg #[.int .u16 (0 : Nat), .int .u16 (0 : Nat), .int .u32 (0 : Nat)], .bool false]) (by simp [results, Try.results45, go_sem, c0, c1, c2]) rfl (chosen_is (x := ⟨0, 0, 0⟩) (HNO.out (.inl HG.out)) rfl (((HW2.out.setCell (Nat.le_refl _) _).setCell (Nat.le_refl _) _).setCell (Nat.le_refl _) _))
  | some l =>
    have HC := Lib.hid (lget_some hg hs)
    cases hsg : signedOf ws with
    | none =>
      have HG := Lib.hid hsg
      clear hg hsg
      go_enter Try.func45, Try.ntmps45
      go_wp2_with fail
      refine (HC.out _).mono ?_
      rintro e w1 ⟨u, rfl, hu, hob, hb1⟩
      have hblk := HCL.out _ _ hb1
      have hw1 := (HB0.out _).trans (hb1.mono (by simp))
      have HW1 := Lib.hid hw1
      have HK1 := Lib.hid hblk
      clear hb1 hblk hw1
      have HV1 := Lib.hid (HV.out.below HW1.out)
      clear hu hob
      go_wp2_with fail
      refine (lsig_none HG.out HV1.out).mono ?_
      rintro e w2 ⟨rfl, hb2⟩
      have hblk2 : w2.heap[w.heap.size]? = some (.cells #[.int .u16 0, .int .u16 0, .int .u32 0] 27) := (hb2.block _ (Array.getElem?_eq_some_iff.1 HK1.out).1).trans HK1.out
      have c0 : w2.cell? ⟨w.heap.size, 0, none⟩ = some (.int .u16 0) := cell_at hblk2
      have c1 : w2.cell? ⟨w.heap.size, 1, none⟩ = some (.int .u16 0) := cell_at hblk2
      have c2 : w2.cell? ⟨w.heap.size, 2, none⟩ = some (.int .u32 0) := cell_at hblk2
      have f0 : w2.frozen? ⟨w.heap.size, 0, none⟩ = false := free_at hblk2
      have f1 : w2.frozen? ⟨w.heap.size, 1, none⟩ = false := free_at hblk2
      have f2 : w2.frozen? ⟨w.heap.size, 2, none⟩ = false := free_at hblk2
      have hw2 := HW1.out.trans (hb2.mono HW1.out.size)
      have HW2 := Lib.hid hw2
      clear hb2 hblk2 hw2
      go_wp2
      exact bodyPost_ret (v := .tuple #[.agg #[.int .u16 (0 : Nat), .int .u16 (0 : Nat), .int .u32 (0 : Nat)], .bool false]) (by simp [results, Try.results45, go_sem, c0, c1, c2]) rfl (chosen_is (x := ⟨0, 0, 0⟩) (HNO.out (.inr HG.out)) rfl (((HW2.out.setCell (Nat.le_refl _) _).setCell (Nat.le_refl _) _).setCell (Nat.le_refl _) _))
    | some nt =>
      obtain ⟨n, t⟩ := nt
      obtain ⟨hn3, ht⟩ := signedOf_lt hsg
      by_cases hnl : n < l.length
      case neg =>
        have hch : chosenOf s ws = (⟨0, 0, 0⟩, false) := by
          unfold chosenOf; rw [hg, hsg]; dsimp only; rw [List.getElem?_eq_none (by omega)]
        have HCH := Lib.hid hch
        have HG := Lib.hid hsg
        clear hg hsg hch
        go_enter Try.func45, Try.ntmps45
        go_wp2_with fail
        refine (HC.out _).mono ?_
        rintro e w1 ⟨u, rfl, hu, hob, hb1⟩
        have hblk := HCL.out _ _ hb1
        have hw1 := (HB0.out _).trans (hb1.mono (by simp))
        have HW1 := Lib.hid hw1
        have HK1 := Lib.hid hblk
        clear hb1 hblk hw1
        have HV1 := Lib.hid (HV.out.below HW1.out)
        obtain ⟨ua, uc, rfl, hul, hum⟩ := hu.shape
        rw [maxLen_eq] at hum
        clear hu hob
        go_wp2_with fail
        refine (lsig_some HG.out HV1.out).mono ?_
        rintro e w2 ⟨rfl, hb2⟩
        have hblk2 : w2.heap[w.heap.size]? = some (.cells #[.int .u16 0, .int .u16 0, .int .u32 0] 27) := (hb2.block _ (Array.getElem?_eq_some_iff.1 HK1.out).1).trans HK1.out
        have c0 : w2.cell? ⟨w.heap.size, 0, none⟩ = some (.int .u16 0) := cell_at hblk2
        have c1 : w2.cell? ⟨w.heap.size, 1, none⟩ = some (.int .u16 0) := cell_at hblk2
        have c2 : w2.cell? ⟨w.heap.size, 2, none⟩ = some (.int .u32 0) := cell_at hblk2
        have f0 : w2.frozen? ⟨w.heap.size, 0, none⟩ = false := free_at hblk2
        have f1 : w2.frozen? ⟨w.heap.size, 1, none⟩ = false := free_at hblk2
        have f2 : w2.frozen? ⟨w.heap.size, 2, none⟩ = false := free_at hblk2
        have hw2 := HW1.out.trans (hb2.mono HW1.out.size)
        have HW2 := Lib.hid hw2
        clear hb2 hblk2 hw2
        go_wp2
        exact bodyPost_ret (v := .tuple #[.agg #[.int .u16 (0 : Nat), .int .u16 (0 : Nat), .int .u32 (0 : Nat)], .bool false]) (by simp [results, Try.results45, go_sem, c0, c1, c2]) rfl (chosen_is (x := ⟨0, 0, 0⟩) HCH.out rfl (((HW2.out.setCell (Nat.le_refl _) _).setCell (Nat.le_refl _) _).setCell (Nat.le_refl _) _))
      case pos =>
        have hx0 : l[n]? = some l[n] := List.getElem?_eq_getElem hnl
        obtain ⟨y, hy⟩ : ∃ y, l[n]? = some y := ⟨_, hx0⟩
        have hch : chosenOf s ws = (y, y.tag == 0 || y.tag == t) := by
          unfold chosenOf; rw [hg, hsg]; dsimp only; rw [hy]
        have HCH := Lib.hid hch
        have HG := Lib.hid hsg
        have HY := Lib.hid hy
        clear hg hsg hch hx0 hy
        go_enter Try.func45, Try.ntmps45
        go_wp2_with fail
        refine (HC.out _).mono ?_
        rintro e w1 ⟨u, rfl, hu, hob, hb1⟩
        have hblk := HCL.out _ _ hb1
        have hw1 := (HB0.out _).trans (hb1.mono (by simp))
        have HW1 := Lib.hid hw1
        have HK1 := Lib.hid hblk
        clear hb1 hblk hw1
        have HV1 := Lib.hid (HV.out.below HW1.out)
        obtain ⟨ua, uc, rfl, hul, hum⟩ := hu.shape
        rw [maxLen_eq] at hum
        have HU := Lib.hid hu
        clear hu
        go_wp2_with fail
        refine (lsig_some HG.out HV1.out).mono ?_
        rintro e w2 ⟨rfl, hb2⟩
        obtain ⟨b, o, x, rfl, hx, hxo, d0, d1, d2⟩ := (HU.out.below hb2).br hnl
        have hbne : b ≠ w.heap.size := by have := hob b rfl; simp at this; omega
        obtain rfl : y = x := by have := HY.out; rw [hx] at this; exact (Option.some.inj this).symm
        obtain ⟨y1, y2, y3⟩ := y
        obtain ⟨ht1, ht2, ht3⟩ := hxo
        dsimp only at d0 d1 d2 ht1 ht2 ht3
        have hblk2 : w2.heap[w.heap.size]? = some (.cells #[.int .u16 0, .int .u16 0, .int .u32 0] 27) := (hb2.block _ (Array.getElem?_eq_some_iff.1 HK1.out).1).trans HK1.out
        have c0 : w2.cell? ⟨w.heap.size, 0, none⟩ = some (.int .u16 0) := cell_at hblk2
        have c1 : w2.cell? ⟨w.heap.size, 1, none⟩ = some (.int .u16 0) := cell_at hblk2
        have c2 : w2.cell? ⟨w.heap.size, 2, none⟩ = some (.int .u32 0) := cell_at hblk2
        have f0 : w2.frozen? ⟨w.heap.size, 0, none⟩ = false := free_at hblk2
        have f1 : w2.frozen? ⟨w.heap.size, 1, none⟩ = false := free_at hblk2
        have f2 : w2.frozen? ⟨w.heap.size, 2, none⟩ = false := free_at hblk2
        have hw2 := HW1.out.trans (hb2.mono HW1.out.size)
        have HW2 := Lib.hid hw2
        clear hb2 hblk2 hw2 hx ht3 ht2
        go_wp2_with fail
        have hbne' : ¬ (w.heap.size = b) := fun h => hbne h.symm
        have hfin : ∀ (q : PBr) (bb : Bool) (w3 : World), chosenOf s ws = (q, bb) → Below w.heap.size w w3 → ∀ b', b' = bb → ChosenIs s ws w (.returned (.tuple #[.agg #[.int .u16 q.tag, .int .u16 q.delay, .int .u32 q.height], .bool b'])) w3 := fun q bb w3 h1 h2 b' h3 => chosen_is h1 h3 h2
        have HFIN := Lib.hid hfin
        clear hfin hob
        by_cases hz : y1 = 0
        · subst hz
          go_region
          all_goals
            go_wp2
            exact bodyPost_ret (v := .tuple #[.agg #[.int .u16 (0 : Nat), .int .u16 y2, .int .u32 y3], .bool true]) (by simp [results, Try.results45, go_sem, c0, c1, c2]) rfl (HFIN.out ⟨0, y2, y3⟩ _ _ HCH.out (((HW2.out.drew.setCell (Nat.le_refl _) _).setCell (Nat.le_refl _) _).setCell (Nat.le_refl _) _) _ rfl)
        · have hzi : ((y1 : Int) == 0) = false := by rw [beq_eq_false_iff_ne]; omega
          have hbt : ((y1 : Int) == t) = (y1 == 0 || y1 == t) := by
            have : (y1 == 0) = false := by simpa using hz
            rw [this, Bool.false_or, Bool.eq_iff_iff, beq_iff_eq, beq_iff_eq]
            omega
          have HBT := Lib.hid hbt
          clear hbt
          go_region
          all_goals
            go_wp2
            exact bodyPost_ret (v := .tuple #[.agg #[.int .u16 y1, .int .u16 y2, .int .u32 y3], .bool ((y1 : Int) == t)]) (by simp [results, Try.results45, go_sem, c0, c1, c2]) rfl (HFIN.out ⟨y1, y2, y3⟩ _ _ HCH.out (((HW2.out.drew.setCell (Nat.le_refl _) _).setCell (Nat.le_refl _) _).setCell (Nat.le_refl _) _) _ HBT.out)

end Go.Proofs.Ytmakghcoehkphaa
