/-
  CheckFeesCard, part 10: the texts Gn, Go, Gp, Gq, one after another. Conditions: none beyond those named at each.
-/
import Derived.Test.YtelindgnkpfkiaaGreatDoorGm
import Derived.Test.YtelindgnkpfkiaaGreatDoorQ9CheckFeesCard
section
/-
  The law's own test that the fee is looked at: what it computes. Conditions: none.
-/
namespace Go.Proofs.YtelindgnkpfkiaaGreatDoor
open Go.RowKit Go.BigFrame
set_option linter.unusedVariables false
set_option linter.unusedSimpArgs false

def wkScr : ByteArray := ⟨(lockPut [⟨1, 0, 0⟩]).1.toArray⟩
def wkIn : PIn := ⟨idB 1, 0, 0, [signW 0 1]⟩
def wkTx : PTx := ⟨2, [wkIn], [⟨3, ⟨#[]⟩⟩], 0⟩
def wkPt : Pt := (idB 1, 0)
def wkCn : PCn := ⟨5, wkScr, 0⟩
theorem wk_lock : lockPut [⟨1, 0, 0⟩] = ((lockPut [⟨1, 0, 0⟩]).1, 0) := by kernel_rfl
theorem wk_form : formE wkTx = 0 := by
  have h1 : countsOf wkTx = true := by kernel_rfl
  have h2 : longOf wkTx = false := by kernel_rfl
  have h3 : formedOf wkTx = true := by kernel_rfl
  have h4 : dup (ptsOf wkTx) = false := dup_no (by simp [ptsOf, wkTx])
  have h5 : (sumOf wkTx).2 = 0 := by kernel_rfl
  have h6 : baseOf wkTx = false := by kernel_rfl
  exact form_ok (by unfold checkOf; rw [h1, h2, h3, h4, h5]; rfl) h6
theorem wk_fee0 : feeE (fun p => getP noCn p []) wkTx 1 = (0, .fault 0 8) :=
  feeE_fault (g := fun p => getP noCn p []) (t := wkTx) (h := 1) wk_form (k := 0) (x := wkIn) rfl (fun j y hj => absurd hj (Nat.not_lt_zero _)) (by show (8 : Int) ≠ 0; decide)
theorem wk_get (c : Nat) : getP noCn wkPt [(wkPt, wkCn, c)] = (wkCn, true) := by
  unfold getP lkP
  simp
theorem wk_spent : spentR (wkCn, true) wkTx 0 1 = (wkCn, 0) := by
  have h1 : openOf wkScr wkTx 0 = 0 := by kernel_rfl
  have h2 : ripeOf wkTx 0 0 1 = true := by kernel_rfl
  unfold spentR
  show (if (true = false) then _ else if openOf wkScr wkTx 0 ≠ 0 then _ else if ripeOf wkTx 0 0 1 = false then _ else _) = _
  rw [h1, h2]
  rfl
theorem wk_fee1 (c : Nat) : feeE (fun p => getP noCn p [(wkPt, wkCn, c)]) wkTx 1 = (2, .none) := by
  have hs : spEr (fun p => getP noCn p [(wkPt, wkCn, c)]) wkTx 1 0 wkTx.ins = none := by
    refine spEr_no _ _ _ _ 0 fun j y hy => ?_
    match j, hy with
    | 0, hy =>
      obtain rfl : wkIn = y := Option.some.inj hy
      show (spentR (getP noCn wkPt [(wkPt, wkCn, c)]) wkTx 0 1).2 = 0
      rw [wk_get, wk_spent]
    | j + 1, hy => simp [wkTx] at hy
  have hv : valsG (fun p => getP noCn p [(wkPt, wkCn, c)]) wkTx.ins = [5] := by
    show [(getP noCn wkPt [(wkPt, wkCn, c)]).1.val] = [5]
    rw [wk_get]
    rfl
  unfold feeE
  rw [if_neg (by rw [wk_form]; decide), hs, hv]
  show (if (sumA 0 [5]).2 ≠ 0 then _ else if (sumA 0 [5]).1 < (sumA 0 [3]).1 then _ else _) = _
  have h1 : sumA 0 [5] = (5, 0) := by kernel_rfl
  have h2 : sumA 0 [3] = (3, 0) := by kernel_rfl
  show (if (sumA 0 [5]).2 ≠ 0 then (0, PEr.num (sumA 0 [5]).2) else if (sumA 0 [5]).1 < (sumA 0 [3]).1 then (0, PEr.num 12) else ((sumA 0 [5]).1 - (sumA 0 [3]).1, PEr.none)) = _
  rw [h1, h2]
  rfl
theorem wk_put : putE [] 0 wkPt wkCn = 0 := by
  have h1 : formedC wkPt wkCn = true := by kernel_rfl
  have h2 : (addA 0 wkCn.val).2 = 0 := by kernel_rfl
  unfold putE
  rw [h1, h2]
  rfl
theorem wk_at {w : World} {a b p : Nat} (h1 : w.heap[a]? = some (.cells #[.string (idB 1), .int .u32 (0 : Nat), .int .u32 (0 : Nat), .slice (some ⟨p, 0, none⟩) 1 1] 56 (0, 0))) (h2 : w.heap[p]? = some (.cells #[.string (signW 0 1)] 9 (0, 0)))
    (h3 : w.heap[b]? = some (.cells #[.int .i64 3, .string ⟨#[]⟩] 48 (0, 0))) : TxAt w (.agg #[.int .u32 (2 : Nat), .slice (some ⟨a, 0, none⟩) 1 1, .slice (some ⟨b, 0, none⟩) 1 1, .int .u32 (0 : Nat)]) wkTx := by
  have hw : SlAt rpStr w (.slice (some ⟨p, 0, none⟩) 1 1) [signW 0 1] := by
    refine ⟨_, 1, rfl, Nat.le_refl _, by decide, fun i y hi => ?_⟩
    match i, hi with
    | 0, hi =>
      obtain rfl : signW 0 1 = y := Option.some.inj hi
      refine ⟨p, 0, [.string (signW 0 1)], rfl, rfl, fun j u hj => ?_, ?_⟩
      · match j, hj with
        | 0, hj => exact (cell_at h2).trans hj
      · simp [rpStr, signW_size, maxLen_eq]
    | j + 1, hi => simp at hi
  refine ⟨_, _, rfl, one_at (x := wkIn) h1 hw (by show (idB 1).size ≤ _; rw [idB_size, maxLen_eq]; decide) (by decide) (by decide), ?_, by decide, by decide⟩
  refine ⟨_, 1, rfl, Nat.le_refl _, by decide, fun i y hi => ?_⟩
  match i, hi with
  | 0, hi =>
    obtain rfl : (⟨3, ⟨#[]⟩⟩ : POut) = y := Option.some.inj hi
    refine ⟨b, 0, [.int .i64 3, .string ⟨#[]⟩], rfl, rfl, fun j u hj => ?_, rfl, by decide, by decide⟩
    match j, hj with
    | 0, hj => exact (cell_at h3).trans hj
    | 1, hj => exact (cell_at h3).trans hj
  | j + 1, hi => simp [wkTx] at hi
end Go.Proofs.YtelindgnkpfkiaaGreatDoor
end

section
/-
  The law's own test that the fee is looked at: wakes. Conditions: errors.errorType holds its handle.
-/
namespace Go.Proofs.YtelindgnkpfkiaaGreatDoor
open Go.RowKit Go.BigFrame
set_option linter.unusedVariables false
set_option linter.unusedSimpArgs false

def aggC : Value → Array Value
  | .agg cs => cs
  | _ => #[]
def SFact.row1 (f : List Value → Obj) : SFact := ⟨fun v d lo hi w => ∃ b, lo ≤ b ∧ b < hi ∧ v = .slice (some ⟨b, 0, none⟩) 1 1 ∧ w.heap[b]? = some (f d), fun hk ⟨b, h1, h2, h3, h4⟩ => ⟨b, h1, h2, h3, (hk b h1 h2).trans h4⟩⟩
def RGw : Prop → Nat → SFact
  | _, 0 => .val fun _ => .agg #[.string (idB 1), .int .u32 (0 : Nat)]
  | _, 1 => .witv (signW 0 1)
  | _, 2 => .val fun d => .agg #[.string (idB 1), .int .u32 (0 : Nat), .int .u32 (0 : Nat), d.getD 1 undef]
  | _, 3 => .row1 fun d => .cells (aggC (d.getD 0 undef)) 56 (0, 0)
  | _, 4 => .val fun _ => .agg #[.int .i64 3, .string ⟨#[]⟩]
  | _, 5 => .row1 fun _ => .cells #[.int .i64 3, .string ⟨#[]⟩] 48 (0, 0)
  | _, 6 => .val fun d => .agg #[.int .u32 (2 : Nat), d.getD 0 undef, d.getD 1 undef, .int .u32 (0 : Nat)]
  | p, 7 => .made p (.cells #[.int .u32 0, .slice none 0 0, .slice none 0 0, .int .u32 0] 35 (0, 0))
  | _, 8 => .stored 35
  | _, _ => .any
set_option maxRecDepth 100000 in
set_option maxHeartbeats 8000000 in
theorem kwakes_any (w : World) (hg : HdAt w) : Calls Tryz.prog 10 #[] w fun e w' => e = .returned (.bool true) ∧ Below w.heap.size w w' := by
  have HG := Lib.hid hg
  clear hg
  go_enter Tryz.func10, Tryz.ntmps10
  go_wp2_with fail
  refine (cnew_any w).mono ?_
  rintro e w1 ⟨b, m, rfl, hcs, hb⟩
  have HC1 := Lib.hid hcs
  have HB1 := Lib.hid hb
  clear hcs hb
  go_wp2_with fail
  refine (id_any 1 w1).mono ?_
  rintro e w2 ⟨rfl, hb⟩
  have HC2 := Lib.hid (HC1.out.below hb)
  have HB2 := Lib.hid (HB1.out.trans (hb.mono HB1.out.size))
  clear hb
  go_upto_region 3 with fail
  have hz := heap_alloc_new w2 (.cells #[.string (idB 1), .int .u32 (0 : Nat)] 46)
  have hal : Below w2.heap.size w2 (w2.alloc (.cells #[.string (idB 1), .int .u32 (0 : Nat)] 46)) := (Below.refl _ _).alloc (Nat.le_refl _) _
  obtain ⟨X, hX⟩ : ∃ q, q = w2.heap.size := ⟨_, rfl⟩
  rw [← hX] at hz ⊢
  generalize w2.alloc (.cells #[.string (idB 1), .int .u32 (0 : Nat)] 46) = w3 at *
  have HZ := Lib.hid hz
  have HAL := Lib.hid hal
  have HX := Lib.hid (show w.heap.size ≤ X by have := HB2.out.size; omega)
  have p0 : w3.cell? ⟨X, 0, none⟩ = some (.string (idB 1)) := cell_at hz
  have p1 : w3.cell? ⟨X, 1, none⟩ = some (.int .u32 (0 : Nat)) := cell_at hz
  have HXN := Lib.hid (show X ≠ b ∧ X ≠ m by have := HC2.out.lt; omega)
  clear hz hal hX
  refine wp_region_stored (RGw) 9 8 7 (by kernel_rfl) (by kernel_rfl) (by kernel_rfl) (by kernel_rfl) (by decide) (by kernel_rfl) (by decide) (by intro j hj v d lo hi w h; match j, hj, h with | 0, hj, h => exact h | 1, hj, h => exact h | 2, hj, h => exact h | 3, hj, h => exact h | 4, hj, h => exact h | 5, hj, h => exact h | 6, hj, h => exact h | 7, hj, h => exact absurd rfl hj | 8, hj, h => exact h | q + 9, hj, h => exact h) ?_ ?_
  · intro i o hi ho L xs lo hi' wr hmd hni hpre
    obtain ⟨x0, x1, x2, x3, x4, x5, x6, x7, x8, rfl⟩ : ∃ x0 x1 x2 x3 x4 x5 x6 x7 x8, xs = [x0, x1, x2, x3, x4, x5, x6, x7, x8] := by match xs, hmd.len with | [x0, x1, x2, x3, x4, x5, x6, x7, x8], _ => exact ⟨_, _, _, _, _, _, _, _, _, rfl⟩
    match i, ho with
    | 0, ho =>
      obtain rfl := Option.some.inj ho
      have t0 := below_cells hmd.bel _ _ p0
      have t1 := below_cells hmd.bel _ _ p1
      have kk := fun lx ox ax => sstep_pure (P := Tryz.prog) (R := RGw) (s := 8) (l := lx) (w0 := w3) (L := L) (xs := [x0, x1, x2, x3, x4, x5, x6, x7, x8]) (lo := lo) (hi := hi') (o := ox) (a := ax) (w := wr) (i := 0) (k := 7) (by decide) (.agg #[.string (idB 1), .int .u32 (0 : Nat)])
      refine kk _ _ _ ?_ ?_
      · simp [putAll, execOp, go_sem, t0, t1]
      · exact rfl
    | 1, ho =>
      obtain rfl := Option.some.inj ho
      have kk := fun lx ox ax => sstep_call (P := Tryz.prog) (R := RGw) (s := 8) (l := lx) (w0 := w3) (L := L) (xs := [x0, x1, x2, x3, x4, x5, x6, x7, x8]) (lo := lo) (hi := hi') (o := ox) (a := ax) (w := wr) (i := 1) (k := 7) (by decide) (rsign_new 0 1 (by decide) (by decide) wr)
      refine kk _ _ _ ?_ ?_
      · kernel_rfl
      · exact fun e w' h => by obtain ⟨v, rfl, p, rfl, hp, hg, hb⟩ := h; exact ⟨_, rfl, hb, p, hp, lt_of hg, rfl, hg⟩
    | 2, ho =>
      obtain rfl := Option.some.inj ho
      have h_0 : x0 = .agg #[.string (idB 1), .int .u32 (0 : Nat)] := hmd.rel 0 (hpre 0 (by kernel_rfl))
      subst h_0
      have r1 : WitV (signW 0 1) x1 (lo 1) (hi' 1) wr := hmd.rel 1 (hpre 1 (by kernel_rfl))
      cases r1 with
      | intro pb r1 =>
      cases r1 with
      | intro _ r1 =>
      cases r1 with
      | intro _ r1 =>
      cases r1 with
      | intro r1 _ =>
      cases r1
      have kk := fun lx ox ax => sstep_pure (P := Tryz.prog) (R := RGw) (s := 8) (l := lx) (w0 := w3) (L := L) (xs := [(.agg #[.string (idB 1), .int .u32 (0 : Nat)]), (.slice (some ⟨pb, 0, none⟩) 1 1), x2, x3, x4, x5, x6, x7, x8]) (lo := lo) (hi := hi') (o := ox) (a := ax) (w := wr) (i := 2) (k := 7) (by decide) (.agg #[.string (idB 1), .int .u32 (0 : Nat), .int .u32 (0 : Nat), .slice (some ⟨pb, 0, none⟩) 1 1])
      refine kk _ _ _ ?_ ?_
      · kernel_rfl
      · exact rfl
    | 3, ho =>
      obtain rfl := Option.some.inj ho
      have l2 : L 2 := hpre 2 (by kernel_rfl)
      have l1 : L 1 := hmd.closed 2 l2 1 (by kernel_rfl)
      have h2 : x2 = .agg #[.string (idB 1), .int .u32 (0 : Nat), .int .u32 (0 : Nat), x1] := hmd.val l2 (fun d => .agg #[.string (idB 1), .int .u32 (0 : Nat), .int .u32 (0 : Nat), d.getD 1 undef]) rfl rfl (by kernel_rfl)
      have r1 : WitV (signW 0 1) x1 (lo 1) (hi' 1) wr := hmd.rel 1 l1
      cases r1 with
      | intro pb r1 =>
      cases r1 with
      | intro _ r1 =>
      cases r1 with
      | intro _ r1 =>
      cases r1 with
      | intro r1 _ =>
      cases r1
      cases h2
      have kk := fun lx ox ax => sstep_new (P := Tryz.prog) (R := RGw) (s := 8) (l := lx) (w0 := w3) (L := L) (xs := [x0, (.slice (some ⟨pb, 0, none⟩) 1 1), (.agg #[.string (idB 1), .int .u32 (0 : Nat), .int .u32 (0 : Nat), .slice (some ⟨pb, 0, none⟩) 1 1]), x3, x4, x5, x6, x7, x8]) (lo := lo) (hi := hi') (o := ox) (a := ax) (w := wr) (i := 3) (k := 7) (by decide) (.slice (some ⟨wr.heap.size, 0, none⟩) 1 1) (.cells #[.string (idB 1), .int .u32 (0 : Nat), .int .u32 (0 : Nat), .slice (some ⟨pb, 0, none⟩) 1 1] 56)
      refine kk _ _ _ ?_ ?_
      · kernel_rfl
      · exact ⟨_, Nat.le_refl _, by simp, rfl, heap_alloc_new wr _⟩
    | 4, ho =>
      obtain rfl := Option.some.inj ho
      have kk := fun lx ox ax => sstep_pure (P := Tryz.prog) (R := RGw) (s := 8) (l := lx) (w0 := w3) (L := L) (xs := [x0, x1, x2, x3, x4, x5, x6, x7, x8]) (lo := lo) (hi := hi') (o := ox) (a := ax) (w := wr) (i := 4) (k := 7) (by decide) (.agg #[.int .i64 3, .string ⟨#[]⟩])
      refine kk _ _ _ ?_ ?_
      · kernel_rfl
      · exact rfl
    | 5, ho =>
      obtain rfl := Option.some.inj ho
      have h_4 : x4 = .agg #[.int .i64 3, .string ⟨#[]⟩] := hmd.rel 4 (hpre 4 (by kernel_rfl))
      subst h_4
      have kk := fun lx ox ax => sstep_new (P := Tryz.prog) (R := RGw) (s := 8) (l := lx) (w0 := w3) (L := L) (xs := [x0, x1, x2, x3, (.agg #[.int .i64 3, .string ⟨#[]⟩]), x5, x6, x7, x8]) (lo := lo) (hi := hi') (o := ox) (a := ax) (w := wr) (i := 5) (k := 7) (by decide) (.slice (some ⟨wr.heap.size, 0, none⟩) 1 1) (.cells #[.int .i64 3, .string ⟨#[]⟩] 48)
      refine kk _ _ _ ?_ ?_
      · kernel_rfl
      · exact ⟨_, Nat.le_refl _, by simp, rfl, heap_alloc_new wr _⟩
    | 6, ho =>
      obtain rfl := Option.some.inj ho
      have r3 : ∃ b, lo 3 ≤ b ∧ b < hi' 3 ∧ x3 = .slice (some ⟨b, 0, none⟩) 1 1 ∧ _ := hmd.rel 3 (hpre 3 (by kernel_rfl))
      have r5 : ∃ b, lo 5 ≤ b ∧ b < hi' 5 ∧ x5 = .slice (some ⟨b, 0, none⟩) 1 1 ∧ _ := hmd.rel 5 (hpre 5 (by kernel_rfl))
      cases r3 with
      | intro b3 r3 =>
      cases r3 with
      | intro _ r3 =>
      cases r3 with
      | intro _ r3 =>
      cases r3 with
      | intro r3 _ =>
      cases r3
      cases r5 with
      | intro b5 r5 =>
      cases r5 with
      | intro _ r5 =>
      cases r5 with
      | intro _ r5 =>
      cases r5 with
      | intro r5 _ =>
      cases r5
      have kk := fun lx ox ax => sstep_pure (P := Tryz.prog) (R := RGw) (s := 8) (l := lx) (w0 := w3) (L := L) (xs := [x0, x1, x2, (.slice (some ⟨b3, 0, none⟩) 1 1), x4, (.slice (some ⟨b5, 0, none⟩) 1 1), x6, x7, x8]) (lo := lo) (hi := hi') (o := ox) (a := ax) (w := wr) (i := 6) (k := 7) (by decide) (.agg #[.int .u32 (2 : Nat), .slice (some ⟨b3, 0, none⟩) 1 1, .slice (some ⟨b5, 0, none⟩) 1 1, .int .u32 (0 : Nat)])
      refine kk _ _ _ ?_ ?_
      · kernel_rfl
      · exact rfl
    | 7, ho =>
      obtain rfl := Option.some.inj ho
      have kk := fun lx ox ax => sstep_new (P := Tryz.prog) (R := RGw) (s := 8) (l := lx) (w0 := w3) (L := L) (xs := [x0, x1, x2, x3, x4, x5, x6, x7, x8]) (lo := lo) (hi := hi') (o := ox) (a := ax) (w := wr) (i := 7) (k := 7) (by decide) (.pointer (some ⟨wr.heap.size, 0, none⟩)) (.cells #[.int .u32 0, .slice none 0 0, .slice none 0 0, .int .u32 0] 35)
      refine kk _ _ _ ?_ ?_
      · kernel_rfl
      · exact ⟨_, Nat.le_refl _, rfl, fun _ => ⟨by simp, heap_alloc_new wr _⟩⟩
    | 8, ho =>
      obtain rfl := Option.some.inj ho
      have l6 : L 6 := hpre 6 (by kernel_rfl)
      have l3 : L 3 := hmd.closed 6 l6 3 (by kernel_rfl)
      have l5 : L 5 := hmd.closed 6 l6 5 (by kernel_rfl)
      have h6 : x6 = .agg #[.int .u32 (2 : Nat), x3, x5, .int .u32 (0 : Nat)] := hmd.val l6 (fun d => .agg #[.int .u32 (2 : Nat), d.getD 0 undef, d.getD 1 undef, .int .u32 (0 : Nat)]) rfl rfl (by kernel_rfl)
      have r3 : ∃ b, lo 3 ≤ b ∧ b < hi' 3 ∧ x3 = .slice (some ⟨b, 0, none⟩) 1 1 ∧ _ := hmd.rel 3 l3
      have r5 : ∃ b, lo 5 ≤ b ∧ b < hi' 5 ∧ x5 = .slice (some ⟨b, 0, none⟩) 1 1 ∧ _ := hmd.rel 5 l5
      have r7 : ∃ bq, lo 7 ≤ bq ∧ x7 = .pointer (some ⟨bq, 0, none⟩) ∧ (¬ L 8 → bq < hi' 7 ∧ wr.heap[bq]? = some (.cells #[.int .u32 0, .slice none 0 0, .slice none 0 0, .int .u32 0] 35 (0, 0))) := hmd.rel 7 (hpre 7 (by kernel_rfl))
      cases r3 with
      | intro b3 r3 =>
      cases r3 with
      | intro _ r3 =>
      cases r3 with
      | intro _ r3 =>
      cases r3 with
      | intro r3 _ =>
      cases r3
      cases r5 with
      | intro b5 r5 =>
      cases r5 with
      | intro _ r5 =>
      cases r5 with
      | intro _ r5 =>
      cases r5 with
      | intro r5 _ =>
      cases r5
      cases h6
      cases r7 with
      | intro bk h16 =>
      cases h16 with
      | intro _ h16 =>
      cases h16 with
      | intro h16 _ =>
      cases h16
      have kk := fun lx ox ax => sstep_row (P := Tryz.prog) (R := RGw) (s := 8) (l := lx) (n := 9) (w0 := w3) (L := L) (xs := [x0, x1, x2, .slice (some ⟨b3, 0, none⟩) 1 1, x4, .slice (some ⟨b5, 0, none⟩) 1 1, .agg #[.int .u32 (2 : Nat), .slice (some ⟨b3, 0, none⟩) 1 1, .slice (some ⟨b5, 0, none⟩) 1 1, .int .u32 (0 : Nat)], .pointer (some ⟨bk, 0, none⟩), x8]) (lo := lo) (hi := hi') (o := ox) (a := ax) (w := wr) (k := 7) (35) (.tmp 3) (.tmp 22) (35) #[.int .u32 0, .slice none 0 0, .slice none 0 0, .int .u32 0] #[.int .u32 (2 : Nat), .slice (some ⟨b3, 0, none⟩) 1 1, .slice (some ⟨b5, 0, none⟩) 1 1, .int .u32 (0 : Nat)] bk
      refine kk _ _ _ ?_ ?_ ?_ ?_ ?_ ?_ ?_ ?_ ?_ ?_ ?_ ?_ ?_ ?_ ?_
      · exact rfl
      · exact rfl
      · exact rfl
      · exact hmd
      · exact hni
      · exact hpre 7 (by kernel_rfl)
      · rfl
      · rfl
      · kernel_rfl
      · kernel_rfl
      · kernel_rfl
      · rfl
      · kernel_rfl
      · kernel_rfl
      · kernel_rfl
    | q + 9, ho => omega
  · intro xs lo hi wr hmd
    obtain ⟨x0, x1, x2, x3, x4, x5, x6, x7, x8, rfl⟩ : ∃ x0 x1 x2 x3 x4 x5 x6 x7 x8, xs = [x0, x1, x2, x3, x4, x5, x6, x7, x8] := by match xs, hmd.len with | [x0, x1, x2, x3, x4, x5, x6, x7, x8], _ => exact ⟨_, _, _, _, _, _, _, _, _, rfl⟩
    simp only [putAll]
    change wpList _ _ _ [] _ _
    have h2 : x2 = .agg #[.string (idB 1), .int .u32 (0 : Nat), .int .u32 (0 : Nat), x1] := hmd.val (show 2 < 9 by decide) (fun d => .agg #[.string (idB 1), .int .u32 (0 : Nat), .int .u32 (0 : Nat), d.getD 1 undef]) rfl rfl (by kernel_rfl)
    have h6 : x6 = .agg #[.int .u32 (2 : Nat), x3, x5, .int .u32 (0 : Nat)] := hmd.val (show 6 < 9 by decide) (fun d => .agg #[.int .u32 (2 : Nat), d.getD 0 undef, d.getD 1 undef, .int .u32 (0 : Nat)]) rfl rfl (by kernel_rfl)
    have r1 : WitV (signW 0 1) x1 (lo 1) (hi 1) wr := hmd.rel 1 (by decide)
    obtain ⟨b3, lb3, -, h3, g3⟩ : ∃ b, lo 3 ≤ b ∧ b < hi 3 ∧ x3 = .slice (some ⟨b, 0, none⟩) 1 1 ∧ wr.heap[b]? = some (.cells (aggC x2) 56 (0, 0)) := hmd.rel 3 (by decide)
    obtain ⟨b5, lb5, -, h5, g5⟩ : ∃ b, lo 5 ≤ b ∧ b < hi 5 ∧ x5 = .slice (some ⟨b, 0, none⟩) 1 1 ∧ wr.heap[b]? = some (.cells #[.int .i64 3, .string ⟨#[]⟩] 48 (0, 0)) := hmd.rel 5 (by decide)
    have r8 := hmd.st (show 8 < 9 by decide) (x := x7) (y := x6) (t := 35) rfl (by kernel_rfl) (by kernel_rfl)
    have hbel := hmd.bel
    have q1 := (hmd.lohi 1 (by decide)).1
    have q3 := (hmd.lohi 3 (by decide)).1
    have q5 := (hmd.lohi 5 (by decide)).1
    have q7 := (hmd.lohi 8 (by decide)).1
    have q8 := (hmd.lohi 7 (by decide)).1
    clear hmd
    obtain ⟨pb, lpb, -, h1, gp⟩ := r1
    subst h1
    subst h2
    subst h3
    subst h5
    subst h6
    obtain ⟨T, csT, hT1, hT2, h7, h8, hTz⟩ := r8
    subst h7
    obtain rfl : csT = #[.int .u32 (2 : Nat), .slice (some ⟨b3, 0, none⟩) 1 1, .slice (some ⟨b5, 0, none⟩) 1 1, .int .u32 (0 : Nat)] := by injection h8 with e; exact e.symm
    have HTX := Lib.hid (wk_at g3 gp g5)
    have HTZ := Lib.hid hTz
    have HC3 := Lib.hid (HC2.out.below (HAL.out.trans (hbel.mono HAL.out.size)))
    have HB3 := Lib.hid (HB2.out.trans ((HAL.out.trans (hbel.mono HAL.out.size)).mono HB2.out.size))
    have HPZ := Lib.hid (stay HZ.out hbel)
    have HG3 := Lib.hid g3
    have HG5 := Lib.hid g5
    have HGP := Lib.hid gp
    have hbm := HC2.out.lt
    have hs3 := HAL.out.size
    have HNE := Lib.hid (show (T ≠ b ∧ T ≠ m) ∧ (b3 ≠ b ∧ b3 ≠ m) ∧ (b5 ≠ b ∧ b5 ≠ m) ∧ (pb ≠ b ∧ pb ≠ m) by omega)
    clear hTz g3 gp g5 h8 hT1 hT2 hbel p0 p1 q1 q3 q5 q7 q8 lb3 lb5 lpb hbm hs3
    have t0 : wr.cell? ⟨T, 0, none⟩ = some (.int .u32 (2 : Nat)) := cell_at HTZ.out
    have t1 : wr.cell? ⟨T, 1, none⟩ = some (.slice (some ⟨b3, 0, none⟩) 1 1) := cell_at HTZ.out
    have t2 : wr.cell? ⟨T, 2, none⟩ = some (.slice (some ⟨b5, 0, none⟩) 1 1) := cell_at HTZ.out
    have t3 : wr.cell? ⟨T, 3, none⟩ = some (.int .u32 (0 : Nat)) := cell_at HTZ.out
    have HF1 := kfee_any HC3.out (fun p => by show (0 : Nat) ≤ _; decide) _ wkTx 1 (by decide) HTX.out (by decide) (by decide)
    rw [wk_fee0] at HF1
    have HF := Lib.hid HF1
    clear HF1
    go_wp2_with fail
    refine HF.out.mono ?_
    rintro e w4 ⟨v4, rfl, he4, hb⟩
    have HE4 := Lib.hid he4
    have HC4 := Lib.hid (HC3.out.below hb)
    have HB4 := Lib.hid (HB3.out.trans (hb.mono HB3.out.size))
    have HT4 := Lib.hid (stay HTZ.out hb)
    have HP4 := Lib.hid (stay HPZ.out hb)
    have HG34 := Lib.hid (stay HG3.out hb)
    have HG54 := Lib.hid (stay HG5.out hb)
    have HGP4 := Lib.hid (stay HGP.out hb)
    clear hb he4 t0 t1 t2 t3 HF
    dsimp only
    go_wp2_with fail
    have hz5 := heap_alloc_new w4 (.cells #[.int .u16 1, .int .u16 0, .int .u32 0] 81)
    have hb5 : Below w4.heap.size w4 (w4.alloc (.cells #[.int .u16 1, .int .u16 0, .int .u32 0] 81)) := (Below.refl _ _).alloc (Nat.le_refl _) _
    have hlp := rlput_any (.slice (some ⟨w4.heap.size, 0, none⟩) 1 1) [⟨1, 0, 0⟩] (w4.alloc (.cells #[.int .u16 1, .int .u16 0, .int .u32 0] 81)) (by
      refine ⟨_, 1, rfl, Nat.le_refl _, by decide, fun i y hi => ?_⟩
      match i, hi with
      | 0, hi =>
        obtain rfl : (⟨1, 0, 0⟩ : PBr) = y := Option.some.inj hi
        refine ⟨w4.heap.size, 0, [.int .u16 (1 : Nat), .int .u16 (0 : Nat), .int .u32 (0 : Nat)], rfl, rfl, fun j u hj => ?_, rfl, ⟨by decide, by decide, by decide⟩⟩
        match j, hj with
        | 0, hj => exact (cell_at hz5).trans hj
        | 1, hj => exact (cell_at hz5).trans hj
        | 2, hj => exact (cell_at hz5).trans hj
      | j + 1, hi => simp at hi)
    unfold LockPutIs at hlp
    rw [wk_lock] at hlp
    refine hlp.mono ?_
    rintro e w5 ⟨rfl, hb⟩
    have hb := hb5.trans (hb.mono hb5.size)
    have HC5 := Lib.hid (HC4.out.below hb)
    have HB5 := Lib.hid (HB4.out.trans (hb.mono HB4.out.size))
    have HT5 := Lib.hid (stay HT4.out hb)
    have HP5 := Lib.hid (stay HP4.out hb)
    have HG35 := Lib.hid (stay HG34.out hb)
    have HG55 := Lib.hid (stay HG54.out hb)
    have HGP5 := Lib.hid (stay HGP4.out hb)
    have HE5 := Lib.hid (HE4.out.below hb)
    clear hz5 hb5 hlp hb
    have p0 : w5.cell? ⟨X, 0, none⟩ = some (.string (idB 1)) := cell_at HP5.out
    have p1 : w5.cell? ⟨X, 1, none⟩ = some (.int .u32 (0 : Nat)) := cell_at HP5.out
    have HPT := Lib.hid (cput_any HC5.out wkPt wkCn)
    dsimp only
    go_wp2_with fail
    refine HPT.out.mono ?_
    rintro e w6 ⟨rfl, hfr, hcs⟩
    rw [wk_put]
    rw [if_pos wk_put] at hcs
    have HC6 := Lib.hid (show CsAt w.heap.size w6 b m [(wkPt, wkCn, 0)] 1 5 from hcs)
    have hne := HNE.out
    have HT6 := Lib.hid ((hfr.block T (lt_of HT5.out) (by simp; omega)).trans HT5.out)
    have HG36 := Lib.hid ((hfr.block b3 (lt_of HG35.out) (by simp; omega)).trans HG35.out)
    have HG56 := Lib.hid ((hfr.block b5 (lt_of HG55.out) (by simp; omega)).trans HG55.out)
    have HGP6 := Lib.hid ((hfr.block pb (lt_of HGP5.out) (by simp; omega)).trans HGP5.out)
    have HB6 := Lib.hid (HB5.out.trans (hfr.below HB5.out.size (by have h1 := HC5.out.blo; have h2 := HC5.out.mlo; simp [h1, h2])))
    have HE6 := Lib.hid (show ErAt w6 v4 (.fault 0 8) from (by
      obtain ⟨bf, h1, h2⟩ := HE5.out
      refine ⟨bf, h1, (hfr.block bf (lt_of h2) ?_).trans h2⟩
      have hx := HC5.out.box
      have hm : w5.heap[m]? = _ := HC5.out.map
      unfold FaAt at h2
      simp only [List.mem_cons, List.not_mem_nil, or_false, not_or]
      constructor
      · rintro rfl
        rw [hx] at h2
        injection h2 with h2
        injection h2 with _ h2
        exact absurd h2 (by decide)
      · rintro rfl
        rw [hm] at h2
        cases h2))
    clear hfr hcs hne p0 p1 HPT HE5 HC5 HC4
    have t0 : w6.cell? ⟨T, 0, none⟩ = some (.int .u32 (2 : Nat)) := cell_at HT6.out
    have t1 : w6.cell? ⟨T, 1, none⟩ = some (.slice (some ⟨b3, 0, none⟩) 1 1) := cell_at HT6.out
    have t2 : w6.cell? ⟨T, 2, none⟩ = some (.slice (some ⟨b5, 0, none⟩) 1 1) := cell_at HT6.out
    have t3 : w6.cell? ⟨T, 3, none⟩ = some (.int .u32 (0 : Nat)) := cell_at HT6.out
    have HTX6 := Lib.hid (wk_at HG36.out HGP6.out HG56.out)
    have HF1 := kfee_any HC6.out (fun p => by
      unfold getP lkP
      by_cases hp : p = wkPt
      · rw [if_pos hp]; show wkScr.size ≤ _; exact Nat.le_trans (show wkScr.size ≤ 100 by decide) (by decide)
      · rw [if_neg hp]; show (0 : Nat) ≤ _; decide) _ wkTx 1 (by decide) HTX6.out (by decide) (by decide)
    rw [wk_fee1] at HF1
    have HF := Lib.hid HF1
    clear HF1
    dsimp only
    go_wp2_with fail
    refine HF.out.mono ?_
    rintro e w7 ⟨v7, rfl, he7, hb⟩
    obtain rfl : v7 = .nilIface := he7
    have HT7 := Lib.hid (stay HT6.out hb)
    have HTX7 := Lib.hid (HTX6.out.below hb)
    have HE7 := Lib.hid (HE6.out.below hb)
    have HB7 := Lib.hid (HB6.out.trans (hb.mono HB6.out.size))
    clear hb t0 t1 t2 t3 HF
    have t0 : w7.cell? ⟨T, 0, none⟩ = some (.int .u32 (2 : Nat)) := cell_at HT7.out
    have t1 : w7.cell? ⟨T, 1, none⟩ = some (.slice (some ⟨b3, 0, none⟩) 1 1) := cell_at HT7.out
    have t2 : w7.cell? ⟨T, 2, none⟩ = some (.slice (some ⟨b5, 0, none⟩) 1 1) := cell_at HT7.out
    have t3 : w7.cell? ⟨T, 3, none⟩ = some (.int .u32 (0 : Nat)) := cell_at HT7.out
    have HF := Lib.hid (kfee_nil _ wkTx 1 w7 HTX7.out)
    dsimp only
    go_wp2_with fail
    refine HF.out.mono ?_
    rintro e w8 ⟨v8, rfl, he8, hb⟩
    obtain rfl : v8 = .iface 42 (.int .i64 1) := he8
    have HE8 := Lib.hid (HE7.out.below hb)
    have HB8 := Lib.hid (HB7.out.trans (hb.mono HB7.out.size))
    clear hb t0 t1 t2 t3 HF
    dsimp only
    go_wp2_with fail
    refine (eris_any v4 _ 8 w8 HE8.out).mono ?_
    rintro e w9 ⟨rfl, rfl⟩
    dsimp only [PEr.is]
    go_wp2_with fail
    refine (erplace_any v4 _ w8 (HG.out.below HB8.out) HE8.out).mono ?_
    rintro e w10 ⟨rfl, hb⟩
    have HB10 := Lib.hid (HB8.out.trans (hb.mono HB8.out.size))
    clear hb
    dsimp only [PEr.place]
    go_wp2_with fail
    refine (eris_any (.iface 42 (.int .i64 1)) (.num 1) 1 w10 rfl).mono ?_
    rintro e w11 ⟨rfl, rfl⟩
    dsimp only [PEr.is]
    go_wp2_with fail
    go_ret
    exact ⟨rfl, HB10.out⟩
end Go.Proofs.YtelindgnkpfkiaaGreatDoor
end

section
/-
  CheckFees: the walk. Conditions: the job lies in memory; errors.errorType holds its handle.
-/
namespace Go.Proofs.YtelindgnkpfkiaaGreatDoor
open Go.RowKit Go.BigFrame
set_option linter.unusedVariables false
set_option linter.unusedSimpArgs false

/-- The law's data. -/
structure PJb where
  coins : List PJc
  spends : List PJs
  outs : List POut
  ver : Nat
  lock : Nat
  ht : Int
def JobAt (w : World) (v : Value) (j : PJb) : Prop := ∃ vc vs vo, v = .agg #[vc, vs, vo, .int .u32 j.ver, .int .u32 j.lock, .int .i64 j.ht] ∧ SlAt rpJc w vc j.coins ∧ SlAt rpJs w vs j.spends ∧ SlAt rpOut w vo j.outs ∧ j.ver < 4294967296 ∧ j.lock < 4294967296 ∧ -9223372036854775808 ≤ j.ht ∧ j.ht ≤ 9223372036854775807
theorem JobAt.below {w w' : World} {v : Value} {j : PJb} (h : JobAt w v j) (hb : Below w.heap.size w w') : JobAt w' v j :=
  let ⟨a, b, c, h1, h2, h3, h4, h5⟩ := h; ⟨a, b, c, h1, h2.below hb, h3.below hb, h4.below hb, h5⟩
theorem HeldS.below {B S : Nat} {w w' : World} {b m : Nat} {v : Value} {lc : CL} {c : Nat} {tot : Int} {le : List PEn} (h : HeldS B S w b m v lc c tot le) (hb : Below w.heap.size w w') : HeldS B S w' b m v lc c tot le :=
  ⟨h.set.below hb, h.own.below hb, h.bS, h.mS, h.agr, h.ids⟩
theorem HeldS.get {B S : Nat} {w : World} {b m : Nat} {v : Value} {lc : CL} {c : Nat} {tot : Int} {le : List PEn} (h : HeldS B S w b m v lc c tot le) : (fun p => getP noCn p lc) = rgP le := funext fun p => agr_get h.set.wf h.agr p
theorem rgP_size {le : List PEn} (h : ∀ y ∈ le, y.Ok) (p : Pt) : (rgP le p).1.script.size ≤ 9223372036854775807 := by
  cases hf : rfound le p with
  | some k =>
    obtain ⟨y, hy, -, hr⟩ := rgP_hit hf
    rw [hr]
    have := (h y (List.mem_of_getElem? hy)).script
    rw [maxLen_eq] at this
    exact this
  | none =>
    unfold rgP
    rw [hf]
    show (0 : Nat) ≤ _
    decide
theorem HeldS.size {B S : Nat} {w : World} {b m : Nat} {v : Value} {lc : CL} {c : Nat} {tot : Int} {le : List PEn} (h : HeldS B S w b m v lc c tot le) (p : Pt) : (getP noCn p lc).1.script.size ≤ 9223372036854775807 := by
  have : getP noCn p lc = rgP le p := congrFun h.get p
  rw [this]
  exact rgP_size h.own.ok p
theorem spEr_ne {g : Pt → PCn × Bool} {t : PTx} {h : Int} : ∀ {l : List PIn} {i : Nat} {x : Nat × Int}, spEr g t h i l = some x → x.2 ≠ 0
  | [], i, x, hx => by cases hx
  | y :: r, i, x, hx => by
    unfold spEr at hx
    split at hx
    · rename_i hn
      obtain rfl := Option.some.inj hx
      exact hn
    · exact spEr_ne hx
/-- What is wrong has a number. -/
theorem feeE_ne (g : Pt → PCn × Bool) (t : PTx) (h : Int) : (feeE g t h).2 = .none ∨ (∃ n, (feeE g t h).2 = .num n ∧ n ≠ 0) ∨ ∃ a n, (feeE g t h).2 = .fault a n ∧ n ≠ 0 := by
  unfold feeE
  split
  · rename_i hn; exact .inr (.inl ⟨_, rfl, hn⟩)
  · split
    · rename_i x hx; exact .inr (.inr ⟨_, _, rfl, spEr_ne hx⟩)
    · split
      · rename_i hn; exact .inr (.inl ⟨_, rfl, hn⟩)
      · split
        · exact .inr (.inl ⟨_, rfl, by decide⟩)
        · exact .inl rfl
structure FeI (w : World) (B S b m : Nat) (vl : Value) (lc : CL) (c : Nat) (tot : Int) (le : List PEn) (T : Nat) (vt : Value) (cs : Array Value) (t : PTx) (R : Nat) (h1 h2 : Int) (wr : World) : Prop where
  bel : Below w.heap.size w wr
  held : HeldS B S wr b m vl lc c tot le
  box : wr.heap[T]? = some (.cells cs 35 (0, 0))
  tx : TxAt wr vt t
  row : wr.heap[R]? = some (.cells #[.int .i64 h1, .int .i64 h2] 3 (0, 0))
theorem FeI.below {w : World} {B S b m : Nat} {vl : Value} {lc : CL} {c : Nat} {tot : Int} {le : List PEn} {T : Nat} {vt : Value} {cs : Array Value} {t : PTx} {R : Nat} {h1 h2 : Int} {wr w' : World} (h : FeI w B S b m vl lc c tot le T vt cs t R h1 h2 wr) (hb : Below wr.heap.size wr w') : FeI w B S b m vl lc c tot le T vt cs t R h1 h2 w' :=
  ⟨h.bel.trans (hb.mono h.bel.size), h.held.below hb, stay h.box hb, h.tx.below hb, stay h.row hb⟩
set_option maxRecDepth 100000 in
set_option maxHeartbeats 8000000 in
theorem fees_walk (v : Value) (j : PJb) (w : World) (hj : JobAt w v j) (hg : HdAt w) : Calls Tryz.prog 4 #[v] w fun e w' => e = .returned (.bool true) ∧ Below w.heap.size w w' := by
  obtain ⟨vc, vs, vo, rfl, hc, hs, ho, hver, hlock, hht0, hht1⟩ := hj
  obtain ⟨lj, ls, lo0, ver, lock, ht⟩ := j
  have HG := Lib.hid hg
  have HJ := Lib.hid (And.intro hc (And.intro hs ho))
  have HV := Lib.hid (And.intro hver hlock)
  clear hg hc hs ho hver hlock
  go_enter Tryz.func4, Tryz.ntmps4
  go_upto_region 1 with fail
  have hz := heap_alloc_new w (.cells #[vc, vs, vo, .int .u32 ver, .int .u32 lock, .int .i64 ht] 27)
  have hal : Below w.heap.size w (w.alloc (.cells #[vc, vs, vo, .int .u32 ver, .int .u32 lock, .int .i64 ht] 27)) := (Below.refl _ _).alloc (Nat.le_refl _) _
  obtain ⟨X, hX⟩ : ∃ q, q = w.heap.size := ⟨_, rfl⟩
  rw [← hX] at hz ⊢
  generalize w.alloc (.cells #[vc, vs, vo, .int .u32 ver, .int .u32 lock, .int .i64 ht] 27) = w0 at *
  have HZ0 := Lib.hid hz
  have HB0 := Lib.hid hal
  have HJ0 := Lib.hid (And.intro (HJ.out.1.below hal) (And.intro (HJ.out.2.1.below hal) (HJ.out.2.2.below hal)))
  have x0 : w0.cell? ⟨X, 0, none⟩ = some vc := cell_at hz
  have x1 : w0.cell? ⟨X, 1, none⟩ = some vs := cell_at hz
  have x2 : w0.cell? ⟨X, 2, none⟩ = some vo := cell_at hz
  have x3 : w0.cell? ⟨X, 3, none⟩ = some (.int .u32 ver) := cell_at hz
  have x4 : w0.cell? ⟨X, 4, none⟩ = some (.int .u32 lock) := cell_at hz
  have x5 : w0.cell? ⟨X, 5, none⟩ = some (.int .i64 ht) := cell_at hz
  have HXw := Lib.hid (show w.heap.size ≤ X by omega)
  clear hz hal hX
  go_wp2_with fail
  refine (held_any vc vs vo lj ver lock ht w0 HJ0.out.1).mono ?_
  rintro e w1 ⟨b, m, vl, lc, c, tot, le, S, rfl, hh, hle, hS, hb⟩
  have HH1 := Lib.hid hh
  have HZ1 := Lib.hid (stay HZ0.out hb)
  have HB1 := Lib.hid (HB0.out.trans (hb.mono HB0.out.size))
  have HJ1 := Lib.hid (And.intro (HJ0.out.1.below hb) (And.intro (HJ0.out.2.1.below hb) (HJ0.out.2.2.below hb)))
  have HS := Lib.hid (And.intro hle hS)
  replace x0 := below_cells hb _ _ x0
  replace x1 := below_cells hb _ _ x1
  replace x2 := below_cells hb _ _ x2
  replace x3 := below_cells hb _ _ x3
  replace x4 := below_cells hb _ _ x4
  replace x5 := below_cells hb _ _ x5
  clear hh hb hle hS
  dsimp only
  go_wp2_with fail
  refine (spendJ_any vc vs vo lj ls lo0 ver lock ht w1 HJ1.out.1 HJ1.out.2.1 HJ1.out.2.2 HV.out.1 HV.out.2).mono ?_
  rintro e w2 ⟨vt, t, rfl, hto, hlo, hli, hb⟩
  have HT := Lib.hid hto.tx
  have HL := Lib.hid (And.intro hlo hli)
  have HH2 := Lib.hid (HH1.out.below hb)
  have HB2 := Lib.hid (HB1.out.trans (hb.mono HB1.out.size))
  replace x5 := below_cells hb _ _ x5
  obtain ⟨⟨vi, vo2, ps, rfl, -, hio, hoo, -⟩, -, -⟩ := hto
  obtain ⟨ai, ci, rfl, -, -⟩ := ownsRow_shape hio.row
  obtain ⟨ao, co, rfl, -, -⟩ := ownsRow_shape hoo.row
  clear hb hlo hli hio hoo x0 x1 x2 x3 x4 HZ0 HZ1 HJ HJ0 HJ1 HH1 HB1
  dsimp only
  go_upto_region 3 with fail
  have hz := heap_alloc_new w2 (.cells #[.int .u32 t.ver, .slice ai ps.length ci, .slice ao t.outs.length co, .int .u32 t.lock] 35)
  have hal : Below w2.heap.size w2 (w2.alloc (.cells #[.int .u32 t.ver, .slice ai ps.length ci, .slice ao t.outs.length co, .int .u32 t.lock] 35)) := (Below.refl _ _).alloc (Nat.le_refl _) _
  obtain ⟨T, hT⟩ : ∃ q, q = w2.heap.size := ⟨_, rfl⟩
  rw [← hT] at hz ⊢
  generalize w2.alloc (.cells #[.int .u32 t.ver, .slice ai ps.length ci, .slice ao t.outs.length co, .int .u32 t.lock] 35) = w3 at *
  have HZT := Lib.hid hz
  have HT3 := Lib.hid (HT.out.below hal)
  have HH3 := Lib.hid (HH2.out.below hal)
  have HB3 := Lib.hid (HB2.out.trans (hal.mono HB2.out.size))
  replace x5 := below_cells hal _ _ x5
  obtain ⟨h2, hh2⟩ : ∃ q, q = (max 0 ht) % 400 := ⟨_, rfl⟩
  have h2b : 0 ≤ h2 ∧ h2 < 400 := by rw [hh2]; omega
  have HH := Lib.hid hh2.symm
  clear hz hal hT hh2 HH2 HB2 HT
  go_upto_region 4 with fail
  rw [HH.out]
  have hz := heap_alloc_new w3 (.cells #[.int .i64 ht, .int .i64 h2] 3)
  have hal : Below w3.heap.size w3 (w3.alloc (.cells #[.int .i64 ht, .int .i64 h2] 3)) := (Below.refl _ _).alloc (Nat.le_refl _) _
  obtain ⟨R, hR⟩ : ∃ q, q = w3.heap.size := ⟨_, rfl⟩
  rw [← hR] at hz ⊢
  generalize w3.alloc (.cells #[.int .i64 ht, .int .i64 h2] 3) = w4 at *
  have HFI := Lib.hid (show FeI w w0.heap.size S b m vl lc c tot le T (.agg #[.int .u32 t.ver, .slice ai ps.length ci, .slice ao t.outs.length co, .int .u32 t.lock]) #[.int .u32 t.ver, .slice ai ps.length ci, .slice ao t.outs.length co, .int .u32 t.lock] t R ht h2 w4 from
    ⟨HB3.out.trans (hal.mono HB3.out.size), HH3.out.below hal, stay HZT.out hal, HT3.out.below hal, hz⟩)
  clear hz hal hR x5 HB3 HH3 HZT HT3 HH
  go_loopg [28] 2 (fun g i wr => ∃ k : Nat, g = 2 - k ∧ k ≤ 2 ∧ i = .int .i64 k ∧ FeI w w0.heap.size S b m vl lc c tot le T (.agg #[.int .u32 t.ver, .slice ai ps.length ci, .slice ao t.outs.length co, .int .u32 t.lock]) #[.int .u32 t.ver, .slice ai ps.length ci, .slice ao t.outs.length co, .int .u32 t.lock] t R ht h2 wr)
  case atStart => exact ⟨0, rfl, by omega, rfl, HFI.out⟩
  case round =>
    rename World => wo
    obtain ⟨k, hgk, hk, rfl, hfi⟩ := hrel
    have HGK := Lib.hid hgk
    have HFI := Lib.hid hfi
    clear hgk hfi
    by_cases hlt : k < 2
    · obtain ⟨hx, hxd, hx1⟩ : ∃ hx, wo.cell? ⟨R, k, none⟩ = some (.int .i64 hx) ∧ hx ≤ 9223372036854775807 := by
        have hr := HFI.out.row
        match k, hlt with
        | 0, _ => exact ⟨ht, cell_at hr, hht1⟩
        | 1, _ => exact ⟨h2, cell_at hr, by omega⟩
      have t0 : wo.cell? ⟨T, 0, none⟩ = some (.int .u32 t.ver) := cell_at HFI.out.box
      have t1 : wo.cell? ⟨T, 1, none⟩ = some (.slice ai ps.length ci) := cell_at HFI.out.box
      have t2 : wo.cell? ⟨T, 2, none⟩ = some (.slice ao t.outs.length co) := cell_at HFI.out.box
      have t3 : wo.cell? ⟨T, 3, none⟩ = some (.int .u32 t.lock) := cell_at HFI.out.box
      obtain ⟨⟨z1, z2⟩, hz⟩ : ∃ z, z = feeE (rgP le) t hx := ⟨_, rfl⟩
      have hf1 := kfee_any HFI.out.held.set HFI.out.held.size _ t hx hx1 HFI.out.tx HL.out.1 (by have := HL.out.2; omega)
      rw [HFI.out.held.get, ← hz] at hf1
      have HF1 := Lib.hid hf1
      clear hf1
      go_wp2_with fail
      refine HF1.out.mono ?_
      rintro e w5 ⟨v5, rfl, he5, hb⟩
      have HE5 := Lib.hid he5
      have HF5 := Lib.hid (HFI.out.below hb)
      replace t0 := below_cells hb _ _ t0
      replace t1 := below_cells hb _ _ t1
      replace t2 := below_cells hb _ _ t2
      replace t3 := below_cells hb _ _ t3
      clear hb he5 hxd HF1
      have hf2 := rkfee_any vl le (.agg #[.int .u32 t.ver, .slice ai ps.length ci, .slice ao t.outs.length co, .int .u32 t.lock]) t hx w5 HF5.out.held.own.sl (agr_good HF5.out.held.agr HF5.out.held.set.cwf) (fun y hy => by have := (HF5.out.held.own.ok y hy).script; rw [maxLen_eq] at this; exact this) hx1 HF5.out.tx HL.out.1 (by have := HL.out.2; omega)
      rw [← hz] at hf2
      have HF2 := Lib.hid hf2
      have hzs := feeE_ne (rgP le) t hx
      rw [← hz] at hzs
      have HZS := Lib.hid hzs
      clear hf2 hz hzs
      dsimp only
      go_wp2_with fail
      refine HF2.out.mono ?_
      rintro e w6 ⟨rfl, hb⟩
      have HE6 := Lib.hid (HE5.out.below hb)
      have HF6 := Lib.hid (HF5.out.below hb)
      clear hb HF2 t0 t1 t2 t3 HE5
      have HGK2 := Lib.hid (show gk = 2 - k ∧ k < 2 from ⟨HGK.out, hlt⟩)
      dsimp only at HZS HE6 ⊢
      rcases HZS.out with h | ⟨n, h, hn⟩ | ⟨a, n, h, hn⟩
      · obtain rfl : z2 = .none := h
        have HV := Lib.hid HE6.out
        obtain rfl : v5 = .nilIface := HE6.out
        dsimp only [PEr.code, PEr.place]
        go_wp2_with fail
        refine (ercode_any .nilIface .none w6 (HG.out.below HF6.out.bel) rfl).mono ?_
        rintro e w7 ⟨rfl, hb⟩
        have HF7 := Lib.hid (HF6.out.below hb)
        clear hb
        dsimp only [PEr.code]
        go_wp2_with fail
        refine (erplace_any .nilIface .none w7 (HG.out.below HF7.out.bel) rfl).mono ?_
        rintro e w8 ⟨rfl, hb⟩
        have HF8 := Lib.hid (HF7.out.below hb)
        clear hb
        dsimp only [PEr.place]
        go_wp2_with fail
        go_roundg (2 - (k + 1))
        case measure => have := HGK2.out; omega
        case rel => exact ⟨k + 1, rfl, by omega, by go_num, HF8.out⟩
      · obtain rfl : z2 = .num n := h
        obtain rfl : v5 = .iface 42 (.int .i64 n) := HE6.out
        dsimp only [PEr.code, PEr.place]
        go_wp2_with fail
        refine (ercode_any (.iface 42 (.int .i64 n)) (.num n) w6 (HG.out.below HF6.out.bel) rfl).mono ?_
        rintro e w7 ⟨rfl, hb⟩
        have HF7 := Lib.hid (HF6.out.below hb)
        clear hb
        dsimp only [PEr.code]
        go_wp2_with fail
        refine (erplace_any (.iface 42 (.int .i64 n)) (.num n) w7 (HG.out.below HF7.out.bel) rfl).mono ?_
        rintro e w8 ⟨rfl, hb⟩
        have HF8 := Lib.hid (HF7.out.below hb)
        clear hb
        dsimp only [PEr.place]
        go_wp2_with fail
        refine (eris_any (.iface 42 (.int .i64 n)) (.num n) n w8 rfl).mono ?_
        rintro e w9 ⟨rfl, rfl⟩
        rw [show (PEr.num n).is n = true by simp [PEr.is]]
        dsimp only
        go_wp2_with fail
        go_roundg (2 - (k + 1))
        case measure => have := HGK2.out; omega
        case rel => exact ⟨k + 1, rfl, by omega, by go_num, HF8.out⟩
      · obtain rfl : z2 = .fault a n := h
        have HV6 := Lib.hid HE6.out
        obtain ⟨fb, rfl, hfa⟩ := HE6.out
        clear hfa
        dsimp only [PEr.code, PEr.place]
        go_wp2_with fail
        refine (ercode_any (.iface 96 (.pointer (some ⟨fb, 0, none⟩))) (.fault a n) w6 (HG.out.below HF6.out.bel) HV6.out).mono ?_
        rintro e w7 ⟨rfl, hb⟩
        have HF7 := Lib.hid (HF6.out.below hb)
        have HV7 := Lib.hid (HV6.out.below hb)
        clear hb
        dsimp only [PEr.code]
        go_wp2_with fail
        refine (erplace_any (.iface 96 (.pointer (some ⟨fb, 0, none⟩))) (.fault a n) w7 (HG.out.below HF7.out.bel) HV7.out).mono ?_
        rintro e w8 ⟨rfl, hb⟩
        have HF8 := Lib.hid (HF7.out.below hb)
        have HV8 := Lib.hid (HV7.out.below hb)
        clear hb
        dsimp only [PEr.place]
        go_wp2_with fail
        refine (eris_any (.iface 96 (.pointer (some ⟨fb, 0, none⟩))) (.fault a n) n w8 HV8.out).mono ?_
        rintro e w9 ⟨rfl, rfl⟩
        rw [show (PEr.fault a n).is n = true by simp [PEr.is]]
        dsimp only
        go_wp2_with fail
        go_roundg (2 - (k + 1))
        case measure => have := HGK2.out; omega
        case rel => exact ⟨k + 1, rfl, by omega, by go_num, HF8.out⟩
    · obtain rfl : k = 2 := by omega
      go_wp2_with fail
      refine (kwakes_any wo (HG.out.below HFI.out.bel)).mono ?_
      rintro e w5 ⟨rfl, hb⟩
      have HB5 := Lib.hid (HFI.out.bel.trans (hb.mono HFI.out.bel.size))
      clear hb
      dsimp only
      go_wp2_with fail
      go_ret
      exact ⟨rfl, HB5.out⟩
end Go.Proofs.YtelindgnkpfkiaaGreatDoor
end

section
/-
  The check laws' inputs, as they are handed in. Conditions: none. (Printed by tools/mkgq.py.)
-/
namespace Go.Proofs.YtelindgnkpfkiaaGreatDoor
open Go.RowKit Go.ChangeShapes Go.WideShapes
set_option linter.unusedVariables false
set_option linter.unusedSimpArgs false
theorem wf_u8g {n : Int} (h : (Lit.int .u8 n).wf = true) : 0 ≤ n ∧ n ≤ 255 := by simpa [Lit.wf, IntKind.min, IntKind.max, IntKind.signed, IntKind.bits] using h
section
variable {H : Type} {enc : TypeId × Value → H} {w : World} {spare : Nat → Bool} {held : Bool}
set_option maxRecDepth 100000 in
theorem rp_of_brG {fuel : Nat} {cs : List Value} {y : DataW H × List MemPlace} (h : DataW.trod enc Tryz.prog w 0 spare held fuel 81 cs = some y) : ∃ x, rpBr.at_ w cs x := by
  obtain ⟨xs, n, _, _, hl, hlen, hf⟩ := DataW.trod_struct Tryz.underlying81 h
  have hc : Tryz.prog.cellsOf 81 = 3 := by kernel_rfl
  rw [hc] at hl
  match cs, hl with
  | [c0, c1, c2], _ =>
    have hlen' : xs.length = 3 := hlen
    have g0 := hf 0 _ rfl
    have g1 := hf 1 _ rfl
    have g2 := hf 2 _ rfl
    rw [List.getElem?_eq_getElem (by omega)] at g0 g1 g2
    obtain ⟨n0, e0, w0⟩ := rp_of_int Tryz.underlying28 g0
    have k0 : Tryz.prog.cellsOf 28 = 1 := by kernel_rfl
    have e0' : ([c0, c1, c2].drop 0).take (Tryz.prog.cellsOf 28) = [.int .u16 n0] := e0
    rw [k0] at e0'
    obtain ⟨n1, e1, w1⟩ := rp_of_int Tryz.underlying28 g1
    have k1 : Tryz.prog.cellsOf 28 = 1 := by kernel_rfl
    have e1' : ([c0, c1, c2].drop 1).take (Tryz.prog.cellsOf 28) = [.int .u16 n1] := e1
    rw [k1] at e1'
    obtain ⟨n2, e2, w2⟩ := rp_of_int Tryz.underlying25 g2
    have k2 : Tryz.prog.cellsOf 25 = 1 := by kernel_rfl
    have e2' : ([c0, c1, c2].drop 2).take (Tryz.prog.cellsOf 25) = [.int .u32 n2] := e2
    rw [k2] at e2'
    have f0 : c0 = .int .u16 n0 := by simpa using e0'
    have f1 : c1 = .int .u16 n1 := by simpa using e1'
    have f2 : c2 = .int .u32 n2 := by simpa using e2'
    have b0 : 0 ≤ n0 ∧ n0 ≤ 65535 := wf_u16 w0
    have b1 : 0 ≤ n1 ∧ n1 ≤ 65535 := wf_u16 w1
    have b2 : 0 ≤ n2 ∧ n2 ≤ 4294967295 := wf_u32 w2
    refine ⟨⟨n0.toNat, n1.toNat, n2.toNat⟩, ?_, ⟨by dsimp only; omega, by dsimp only; omega, by dsimp only; omega⟩⟩
    dsimp only
    rw [f0, f1, f2, show ((n0.toNat : Nat) : Int) = n0 by omega, show ((n1.toNat : Nat) : Int) = n1 by omega, show ((n2.toNat : Nat) : Int) = n2 by omega]
theorem rp_of_brsG {fuel : Nat} {cs : List Value} {y : DataW H × List MemPlace} (h : DataW.trod enc Tryz.prog w 0 spare held fuel 77 cs = some y) : ∃ l : List PBr, (rpSl rpBr).at_ w cs l :=
  rp_of_slice Tryz.underlying77 (by kernel_rfl) (by decide) (fun fuel cs y h => rp_of_brG h) h
set_option maxRecDepth 100000 in
theorem rp_of_jc {fuel : Nat} {cs : List Value} {y : DataW H × List MemPlace} (h : DataW.trod enc Tryz.prog w 0 spare held fuel 84 cs = some y) : ∃ x, rpJc.at_ w cs x := by
  obtain ⟨xs, n, _, _, hl, hlen, hf⟩ := DataW.trod_struct Tryz.underlying84 h
  have hc : Tryz.prog.cellsOf 84 = 7 := by kernel_rfl
  rw [hc] at hl
  match cs, hl with
  | [c0, c1, c2, c3, c4, c5, c6], _ =>
    have hlen' : xs.length = 7 := hlen
    have g0 := hf 0 _ rfl
    have g1 := hf 1 _ rfl
    have g2 := hf 2 _ rfl
    have g3 := hf 3 _ rfl
    have g4 := hf 4 _ rfl
    have g5 := hf 5 _ rfl
    have g6 := hf 6 _ rfl
    rw [List.getElem?_eq_getElem (by omega)] at g0 g1 g2 g3 g4 g5 g6
    obtain ⟨n0, e0, w0⟩ := rp_of_int Tryz.underlying5 g0
    have k0 : Tryz.prog.cellsOf 5 = 1 := by kernel_rfl
    have e0' : ([c0, c1, c2, c3, c4, c5, c6].drop 0).take (Tryz.prog.cellsOf 5) = [.int .u8 n0] := e0
    rw [k0] at e0'
    obtain ⟨n1, e1, w1⟩ := rp_of_int Tryz.underlying5 g1
    have k1 : Tryz.prog.cellsOf 5 = 1 := by kernel_rfl
    have e1' : ([c0, c1, c2, c3, c4, c5, c6].drop 1).take (Tryz.prog.cellsOf 5) = [.int .u8 n1] := e1
    rw [k1] at e1'
    obtain ⟨n2, e2, w2⟩ := rp_of_int Tryz.underlying3 g2
    have k2 : Tryz.prog.cellsOf 3 = 1 := by kernel_rfl
    have e2' : ([c0, c1, c2, c3, c4, c5, c6].drop 2).take (Tryz.prog.cellsOf 3) = [.int .i64 n2] := e2
    rw [k2] at e2'
    obtain ⟨n3, e3, w3⟩ := rp_of_int Tryz.underlying3 g3
    have k3 : Tryz.prog.cellsOf 3 = 1 := by kernel_rfl
    have e3' : ([c0, c1, c2, c3, c4, c5, c6].drop 3).take (Tryz.prog.cellsOf 3) = [.int .i64 n3] := e3
    rw [k3] at e3'
    obtain ⟨l4, v4, e4, hs4⟩ := rp_of_brsG g4
    have k4 : Tryz.prog.cellsOf 77 = 1 := by kernel_rfl
    have e4' : ([c0, c1, c2, c3, c4, c5, c6].drop 4).take (Tryz.prog.cellsOf 77) = [v4] := e4
    rw [k4] at e4'
    obtain ⟨s5, e5, z5⟩ := rp_of_str Tryz.underlying9 g5
    have k5 : Tryz.prog.cellsOf 9 = 1 := by kernel_rfl
    have e5' : ([c0, c1, c2, c3, c4, c5, c6].drop 5).take (Tryz.prog.cellsOf 9) = [.string s5] := e5
    rw [k5] at e5'
    obtain ⟨n6, e6⟩ := rp_of_bool Tryz.underlying4 g6
    have k6 : Tryz.prog.cellsOf 4 = 1 := by kernel_rfl
    have e6' : ([c0, c1, c2, c3, c4, c5, c6].drop 6).take (Tryz.prog.cellsOf 4) = [.bool n6] := e6
    rw [k6] at e6'
    have f0 : c0 = .int .u8 n0 := by simpa using e0'
    have f1 : c1 = .int .u8 n1 := by simpa using e1'
    have f2 : c2 = .int .i64 n2 := by simpa using e2'
    have f3 : c3 = .int .i64 n3 := by simpa using e3'
    have f4 : c4 = v4 := by simpa using e4'
    have f5 : c5 = .string s5 := by simpa using e5'
    have f6 : c6 = .bool n6 := by simpa using e6'
    have b0 : 0 ≤ n0 ∧ n0 ≤ 255 := wf_u8g w0
    have b1 : 0 ≤ n1 ∧ n1 ≤ 255 := wf_u8g w1
    refine ⟨⟨n0.toNat, n1.toNat, n2, n3, l4, s5, n6⟩, v4, ?_, hs4, ⟨by dsimp only; omega, by dsimp only; omega, wf_i64 w2, wf_i64 w3, z5⟩⟩
    dsimp only
    rw [f0, f1, f2, f3, f4, f5, f6, show ((n0.toNat : Nat) : Int) = n0 by omega, show ((n1.toNat : Nat) : Int) = n1 by omega]
set_option maxRecDepth 100000 in
theorem rp_of_js {fuel : Nat} {cs : List Value} {y : DataW H × List MemPlace} (h : DataW.trod enc Tryz.prog w 0 spare held fuel 91 cs = some y) : ∃ x, rpJs.at_ w cs x := by
  obtain ⟨xs, n, _, _, hl, hlen, hf⟩ := DataW.trod_struct Tryz.underlying91 h
  have hc : Tryz.prog.cellsOf 91 = 9 := by kernel_rfl
  rw [hc] at hl
  match cs, hl with
  | [c0, c1, c2, c3, c4, c5, c6, c7, c8], _ =>
    have hlen' : xs.length = 6 := hlen
    have g0 := hf 0 _ rfl
    have g1 := hf 1 _ rfl
    have g2 := hf 2 _ rfl
    have g3 := hf 3 _ rfl
    have g4 := hf 4 _ rfl
    have g5 := hf 5 _ rfl
    rw [List.getElem?_eq_getElem (by omega)] at g0 g1 g2 g3 g4 g5
    obtain ⟨n0, e0, w0⟩ := rp_of_int Tryz.underlying5 g0
    have k0 : Tryz.prog.cellsOf 5 = 1 := by kernel_rfl
    have e0' : ([c0, c1, c2, c3, c4, c5, c6, c7, c8].drop 0).take (Tryz.prog.cellsOf 5) = [.int .u8 n0] := e0
    rw [k0] at e0'
    obtain ⟨n1, e1, w1⟩ := rp_of_int Tryz.underlying5 g1
    have k1 : Tryz.prog.cellsOf 5 = 1 := by kernel_rfl
    have e1' : ([c0, c1, c2, c3, c4, c5, c6, c7, c8].drop 1).take (Tryz.prog.cellsOf 5) = [.int .u8 n1] := e1
    rw [k1] at e1'
    obtain ⟨n2, e2, w2⟩ := rp_of_int Tryz.underlying5 g2
    have k2 : Tryz.prog.cellsOf 5 = 1 := by kernel_rfl
    have e2' : ([c0, c1, c2, c3, c4, c5, c6, c7, c8].drop 2).take (Tryz.prog.cellsOf 5) = [.int .u8 n2] := e2
    rw [k2] at e2'
    obtain ⟨n3, e3, w3⟩ := rp_of_int Tryz.underlying25 g3
    have k3 : Tryz.prog.cellsOf 25 = 1 := by kernel_rfl
    have e3' : ([c0, c1, c2, c3, c4, c5, c6, c7, c8].drop 3).take (Tryz.prog.cellsOf 25) = [.int .u32 n3] := e3
    rw [k3] at e3'
    obtain ⟨x4, u4, e4, hs4, z4, i4, q4⟩ := rp_of_in g4
    have k4 : Tryz.prog.cellsOf 56 = 4 := by kernel_rfl
    have e4' : ([c0, c1, c2, c3, c4, c5, c6, c7, c8].drop 4).take (Tryz.prog.cellsOf 56) = [.string x4.id, .int .u32 x4.idx, .int .u32 x4.seq, u4] := e4
    rw [k4] at e4'
    obtain ⟨n5, e5⟩ := rp_of_bool Tryz.underlying4 g5
    have k5 : Tryz.prog.cellsOf 4 = 1 := by kernel_rfl
    have e5' : ([c0, c1, c2, c3, c4, c5, c6, c7, c8].drop 8).take (Tryz.prog.cellsOf 4) = [.bool n5] := e5
    rw [k5] at e5'
    have f0 : c0 = .int .u8 n0 := by simpa using e0'
    have f1 : c1 = .int .u8 n1 := by simpa using e1'
    have f2 : c2 = .int .u8 n2 := by simpa using e2'
    have f3 : c3 = .int .u32 n3 := by simpa using e3'
    obtain ⟨f4, f5, f6, f7⟩ : c4 = .string x4.id ∧ c5 = .int .u32 x4.idx ∧ c6 = .int .u32 x4.seq ∧ c7 = u4 := by simpa using e4'
    have f8 : c8 = .bool n5 := by simpa using e5'
    have b0 : 0 ≤ n0 ∧ n0 ≤ 255 := wf_u8g w0
    have b1 : 0 ≤ n1 ∧ n1 ≤ 255 := wf_u8g w1
    have b2 : 0 ≤ n2 ∧ n2 ≤ 255 := wf_u8g w2
    have b3 : 0 ≤ n3 ∧ n3 ≤ 4294967295 := wf_u32 w3
    refine ⟨⟨n0.toNat, n1.toNat, n2.toNat, n3.toNat, x4, n5⟩, u4, ?_, hs4, ⟨by dsimp only; omega, by dsimp only; omega, by dsimp only; omega, by dsimp only; omega, z4, i4, q4⟩⟩
    dsimp only
    rw [f0, f1, f2, f3, f4, f5, f6, f7, f8, show ((n0.toNat : Nat) : Int) = n0 by omega, show ((n1.toNat : Nat) : Int) = n1 by omega, show ((n2.toNat : Nat) : Int) = n2 by omega, show ((n3.toNat : Nat) : Int) = n3 by omega]
theorem rp_of_jcs {fuel : Nat} {cs : List Value} {y : DataW H × List MemPlace} (h : DataW.trod enc Tryz.prog w 0 spare held fuel 22 cs = some y) : ∃ l : List PJc, (rpSl rpJc).at_ w cs l :=
  rp_of_slice Tryz.underlying22 (by kernel_rfl) (by decide) (fun fuel cs y h => rp_of_jc h) h
theorem rp_of_jss {fuel : Nat} {cs : List Value} {y : DataW H × List MemPlace} (h : DataW.trod enc Tryz.prog w 0 spare held fuel 23 cs = some y) : ∃ l : List PJs, (rpSl rpJs).at_ w cs l :=
  rp_of_slice Tryz.underlying23 (by kernel_rfl) (by decide) (fun fuel cs y h => rp_of_js h) h
theorem rp_of_outsG {fuel : Nat} {cs : List Value} {y : DataW H × List MemPlace} (h : DataW.trod enc Tryz.prog w 0 spare held fuel 24 cs = some y) : ∃ l : List POut, (rpSl rpOut).at_ w cs l :=
  rp_of_slice Tryz.underlying24 (by kernel_rfl) (by decide) (fun fuel cs y h => rp_of_out h) h
set_option maxRecDepth 100000 in
theorem rp_of_job {fuel : Nat} {cs : List Value} {y : DataW H × List MemPlace} (h : DataW.trod enc Tryz.prog w 0 spare held fuel 27 cs = some y) : ∃ j, JobAt w (.agg cs.toArray) j := by
  obtain ⟨xs, n, _, _, hl, hlen, hf⟩ := DataW.trod_struct Tryz.underlying27 h
  have hc : Tryz.prog.cellsOf 27 = 6 := by kernel_rfl
  rw [hc] at hl
  match cs, hl with
  | [c0, c1, c2, c3, c4, c5], _ =>
    have hlen' : xs.length = 6 := hlen
    have g0 := hf 0 _ rfl
    have g1 := hf 1 _ rfl
    have g2 := hf 2 _ rfl
    have g3 := hf 3 _ rfl
    have g4 := hf 4 _ rfl
    have g5 := hf 5 _ rfl
    rw [List.getElem?_eq_getElem (by omega)] at g0 g1 g2 g3 g4 g5
    obtain ⟨l0, v0, e0, hs0⟩ := rp_of_jcs g0
    have k0 : Tryz.prog.cellsOf 22 = 1 := by kernel_rfl
    have e0' : ([c0, c1, c2, c3, c4, c5].drop 0).take (Tryz.prog.cellsOf 22) = [v0] := e0
    rw [k0] at e0'
    obtain ⟨l1, v1, e1, hs1⟩ := rp_of_jss g1
    have k1 : Tryz.prog.cellsOf 23 = 1 := by kernel_rfl
    have e1' : ([c0, c1, c2, c3, c4, c5].drop 1).take (Tryz.prog.cellsOf 23) = [v1] := e1
    rw [k1] at e1'
    obtain ⟨l2, v2, e2, hs2⟩ := rp_of_outsG g2
    have k2 : Tryz.prog.cellsOf 24 = 1 := by kernel_rfl
    have e2' : ([c0, c1, c2, c3, c4, c5].drop 2).take (Tryz.prog.cellsOf 24) = [v2] := e2
    rw [k2] at e2'
    obtain ⟨n3, e3, w3⟩ := rp_of_int Tryz.underlying25 g3
    have k3 : Tryz.prog.cellsOf 25 = 1 := by kernel_rfl
    have e3' : ([c0, c1, c2, c3, c4, c5].drop 3).take (Tryz.prog.cellsOf 25) = [.int .u32 n3] := e3
    rw [k3] at e3'
    obtain ⟨n4, e4, w4⟩ := rp_of_int Tryz.underlying25 g4
    have k4 : Tryz.prog.cellsOf 25 = 1 := by kernel_rfl
    have e4' : ([c0, c1, c2, c3, c4, c5].drop 4).take (Tryz.prog.cellsOf 25) = [.int .u32 n4] := e4
    rw [k4] at e4'
    obtain ⟨n5, e5, w5⟩ := rp_of_int Tryz.underlying3 g5
    have k5 : Tryz.prog.cellsOf 3 = 1 := by kernel_rfl
    have e5' : ([c0, c1, c2, c3, c4, c5].drop 5).take (Tryz.prog.cellsOf 3) = [.int .i64 n5] := e5
    rw [k5] at e5'
    have f0 : c0 = v0 := by simpa using e0'
    have f1 : c1 = v1 := by simpa using e1'
    have f2 : c2 = v2 := by simpa using e2'
    have f3 : c3 = .int .u32 n3 := by simpa using e3'
    have f4 : c4 = .int .u32 n4 := by simpa using e4'
    have f5 : c5 = .int .i64 n5 := by simpa using e5'
    have b3 : 0 ≤ n3 ∧ n3 ≤ 4294967295 := wf_u32 w3
    have b4 : 0 ≤ n4 ∧ n4 ≤ 4294967295 := wf_u32 w4
    have b5 := wf_i64 w5
    refine ⟨⟨l0, l1, l2, n3.toNat, n4.toNat, n5⟩, v0, v1, v2, ?_, hs0, hs1, hs2, by dsimp only; omega, by dsimp only; omega, b5.1, b5.2⟩
    dsimp only
    rw [f0, f1, f2, f3, f4, f5, show ((n3.toNat : Nat) : Int) = n3 by omega, show ((n4.toNat : Nat) : Int) = n4 by omega]
end
set_option maxRecDepth 100000 in
theorem open_job {H : Type} {enc : TypeId × Value → H} {w : World} {v : Value} {d : DataW H} {ps : List MemPlace} (hv : Value.okWide Tryz.prog w .any 0 27 v) (h : DataW.Trod enc Tryz.prog w 0 (fun _ => true) true 27 v d ps) :
    ∃ j, JobAt w v j := by
  obtain ⟨cs, rfl, -⟩ := Go.WideShapes.okWide_struct Tryz.underlying27 hv
  obtain ⟨fuel, hf⟩ := h
  obtain ⟨j, hj⟩ := rp_of_job hf
  simp only [Value.cells] at hj
  exact ⟨j, hj⟩
end Go.Proofs.YtelindgnkpfkiaaGreatDoor
end
