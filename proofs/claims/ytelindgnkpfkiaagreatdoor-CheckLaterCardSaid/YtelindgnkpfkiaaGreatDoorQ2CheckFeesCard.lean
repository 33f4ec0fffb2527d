/-
  CheckFeesCard, part 2: the texts TxA, TxB, one after another. Conditions: none beyond those named at each.
-/
import Derived.Test.YtelindgnkpfkiaaGreatDoorQ1CheckFeesCard
import Derived.BigQuiet
import Derived.Deep.QuietTactic
import Derived.Deep.RegionHeld3
import Derived.OwnWalk
import Derived.Deep.LoopGhost
import Derived.Deep.DeepCutAuto
import Derived.Deep.CutBlock
import Derived.Test.YtelindgnkpfkiaaGreatDoorFit
section
/-
  Amounts, and what a transaction pays in all. Conditions: none beyond each theorem's own.
-/
namespace Go.Proofs.YtelindgnkpfkiaaGreatDoor
open Go.RowKit Go.BigFrame
set_option linter.unusedVariables false
set_option linter.unusedSimpArgs false

def goodA (a : Int) : Bool := decide (0 ≤ a) && decide (a ≤ 2100000000000000)
theorem goodA_iff (a : Int) : goodA a = true ↔ 0 ≤ a ∧ a ≤ 2100000000000000 := by unfold goodA; simp
def sumA : Int → List Int → Int × Int
  | s, [] => (s, 0)
  | s, a :: r => if goodA a && goodA (s + a) then sumA (s + a) r else (0, 3)

set_option maxHeartbeats 400000 in
theorem awithin_any (a m : Int) (w : World) : Calls Tryz.prog 87 #[.int .i64 a, .int .i64 m] w fun e w' => e = .returned (.bool (decide (0 ≤ a) && decide (a ≤ m))) ∧ w = w' := by
  go_enter Tryz.func87, Tryz.ntmps87
  by_cases h0 : 0 ≤ a
  · go_wp2
    go_ret
    exact ⟨by simp [h0], rfl⟩
  · go_wp2
    go_ret
    exact ⟨by rw [decide_eq_false (show ¬ 0 ≤ a from Int.not_le.2 h0)]; rfl, rfl⟩
set_option maxHeartbeats 400000 in
theorem good_any (a : Int) (w : World) : Calls Tryz.prog 66 #[.int .i64 a] w fun e w' => e = .returned (.bool (goodA a)) ∧ w = w' := by
  go_enter Tryz.func66, Tryz.ntmps66
  go_wp2_with (go_at_call 87; refine (awithin_any a 2100000000000000 w).mono ?_; rintro e w' ⟨rfl, rfl⟩)
  go_ret
  exact ⟨rfl, rfl⟩
set_option maxHeartbeats 400000 in
theorem rgood_any (a : Int) (w : World) : Calls Tryz.prog 62 #[.int .i64 a] w fun e w' => e = .returned (.bool (goodA a)) ∧ w = w' := by
  unfold goodA
  go_enter Tryz.func62, Tryz.ntmps62
  by_cases h0 : 0 ≤ a
  · go_wp2
    go_ret
    exact ⟨by simp [h0], rfl⟩
  · go_wp2
    go_ret
    exact ⟨by rw [decide_eq_false (show ¬ 0 ≤ a from Int.not_le.2 h0)]; rfl, rfl⟩
/-- What Add answers of a sum that may be. -/
def addA (s a : Int) : Int × Int := if goodA a && goodA (s + a) then (s + a, 0) else (0, 3)
def AddIs (s a : Int) (w : World) (e : Ending) (w' : World) : Prop := e = .returned (.tuple #[.int .i64 (addA s a).1, .int .i64 (addA s a).2]) ∧ w = w'
set_option maxHeartbeats 400000 in
theorem add_any (s a : Int) (hs : goodA s = true) (w : World) : Calls Tryz.prog 38 #[.int .i64 s, .int .i64 a] w (AddIs s a w) := by
  have hs2 := (goodA_iff s).1 hs
  have HG := Lib.hid (fun x w => good_any x w)
  go_enter Tryz.func38, Tryz.ntmps38
  by_cases ha : goodA a = true
  · have ha2 := (goodA_iff a).1 ha
    by_cases hb : goodA (s + a) = true
    · have hb2 := (goodA_iff _).1 hb
      have HE := Lib.hid (show addA s a = (s + a, 0) by unfold addA; rw [ha, hb]; rfl)
      go_wp2_with (go_at_call 66; refine (HG.out _ w).mono ?_; rintro e w' ⟨rfl, rfl⟩)
      go_ret2
      exact ⟨by rw [HE.out]; rfl, rfl⟩
    · have hb' : goodA (s + a) = false := by simpa using hb
      have HE := Lib.hid (show addA s a = (0, 3) by unfold addA; rw [hb', Bool.and_false]; rfl)
      go_wp2_with (go_at_call 66; refine (HG.out _ w).mono ?_; rintro e w' ⟨rfl, rfl⟩)
      go_ret2
      exact ⟨by rw [HE.out]; rfl, rfl⟩
  · have ha' : goodA a = false := by simpa using ha
    have HE := Lib.hid (show addA s a = (0, 3) by unfold addA; rw [ha', Bool.false_and]; rfl)
    go_wp2_with (go_at_call 66; refine (HG.out _ w).mono ?_; rintro e w' ⟨rfl, rfl⟩)
    go_ret2
    exact ⟨by rw [HE.out]; rfl, rfl⟩

theorem sumA_step (s a : Int) (r : List Int) : sumA s (a :: r) = if (addA s a).2 = 0 then sumA (addA s a).1 r else (0, 3) := by
  show (if goodA a && goodA (s + a) then sumA (s + a) r else (0, 3)) = _
  unfold addA
  by_cases h : (goodA a && goodA (s + a)) = true
  · rw [if_pos h, if_pos h, if_pos rfl]
  · rw [if_neg h, if_neg h, if_neg (by decide)]
theorem addA_ok {s a : Int} (h : (addA s a).2 = 0) : goodA (addA s a).1 = true ∧ goodA a = true ∧ (addA s a).1 = s + a := by
  unfold addA at *
  by_cases hg : (goodA a && goodA (s + a)) = true
  · rw [if_pos hg]
    simp only [Bool.and_eq_true] at hg
    exact ⟨hg.2, hg.1, rfl⟩
  · rw [if_neg hg] at h
    simp at h
theorem addA_no {s a : Int} (h : (addA s a).2 ≠ 0) : addA s a = (0, 3) := by
  unfold addA at *
  by_cases hg : (goodA a && goodA (s + a)) = true
  · rw [if_pos hg] at h
    exact absurd rfl h
  · rw [if_neg hg]

theorem SlAt.int {k : IntKind} {w : World} {a : Option Addr} {n c i : Nat} {xs : List Int} (h : SlAt (rpInt k) w (.slice a n c) xs) (hi : i < n) : ∃ (b o : Nat) (x : Int), a = some ⟨b, o, none⟩ ∧ xs[i]? = some x ∧ (Lit.int k x).wf = true ∧ w.cell? ⟨b, o + i, none⟩ = some (.int k x) := by
  obtain ⟨b, o, x, cs, h1, h2, h3, h4, h5, h6⟩ := h.at hi
  subst h5
  refine ⟨b, o, x, h1, h2, h6, ?_⟩
  have := h4 0 _ rfl
  simpa [rpInt] using this

def SumAIs (l : List Int) (w : World) (e : Ending) (w' : World) : Prop := e = .returned (.tuple #[.int .i64 (sumA 0 l).1, .int .i64 (sumA 0 l).2]) ∧ w = w'
set_option maxRecDepth 100000 in
set_option maxHeartbeats 1000000 in
theorem asum_any (v : Value) (l : List Int) (w : World) (hv : SlAt (rpInt .i64) w v l) : Calls Tryz.prog 34 #[v] w (SumAIs l w) := by
  obtain ⟨a, c, rfl, hl1, hl2⟩ := hv.shape
  rw [maxLen_eq] at hl2
  obtain ⟨n, hn⟩ : ∃ n, n = l.length := ⟨_, rfl⟩
  rw [← hn] at hv hl1 ⊢
  have HV := Lib.hid hv
  have HN := Lib.hid hn
  clear hv hn
  go_enter Tryz.func34, Tryz.ntmps34
  go_wp2_with fail
  go_loopg [4, 10] n (fun g s i wr => ∃ (k : Nat) (x : Int), g = n - k ∧ k ≤ n ∧ i = .int .i64 k ∧ s = .int .i64 x ∧ goodA x = true ∧ sumA 0 l = sumA x (l.drop k) ∧ wr = w)
  case atStart => exact ⟨0, 0, rfl, by omega, rfl, rfl, by decide, rfl, rfl⟩
  case round =>
    rename World => wo
    obtain ⟨k, x, hgk, hk, rfl, rfl, hgx, hsx, rfl⟩ := hrel
    have HGK := Lib.hid hgk
    have HSX := Lib.hid hsx
    clear hgk hsx
    by_cases hlt : k < n
    · obtain ⟨b, o, y, rfl, hy, -, hc⟩ := HV.out.int hlt
      have hstep : sumA 0 l = if (addA x y).2 = 0 then sumA (addA x y).1 (l.drop (k + 1)) else (0, 3) := by
        rw [HSX.out, ← sumA_step]
        congr 1
        obtain ⟨h1, h2⟩ := List.getElem?_eq_some_iff.1 hy
        rw [List.drop_eq_getElem_cons h1, h2]
      have HST := Lib.hid hstep
      have hadd := add_any x y hgx wo
      unfold AddIs at hadd
      clear hstep hy hgx
      by_cases hz : (addA x y).2 = 0
      · have h3 := addA_ok hz
        have HG := Lib.hid h3.1
        generalize addA x y = z at *
        have HADD := Lib.hid hadd
        clear h3 hadd
        go_wp2_with (go_at_call 38; refine HADD.out.mono ?_; rintro e w' ⟨rfl, rfl⟩)
        go_roundg (n - (k + 1))
        case measure => have := HGK.out; omega
        case rel => exact ⟨k + 1, _, rfl, by omega, by go_num, rfl, HG.out, by rw [HST.out, if_pos hz], rfl⟩
      · have HZ := Lib.hid (addA_no hz)
        have hfin : SumAIs l wo (.returned (.tuple #[.int .i64 0, .int .i64 3])) wo := by
          refine ⟨?_, rfl⟩
          rw [HST.out, if_neg hz]
        have HF := Lib.hid hfin
        rw [HZ.out] at hadd
        have HADD := Lib.hid hadd
        clear hfin hz hadd
        go_wp2_with (go_at_call 38; refine HADD.out.mono ?_; rintro e w' ⟨rfl, rfl⟩)
        go_ret2
        exact HF.out
    · obtain rfl : k = n := by omega
      have hfin : SumAIs l wo (.returned (.tuple #[.int .i64 x, .int .i64 0])) wo := by
        refine ⟨?_, rfl⟩
        rw [HSX.out, List.drop_of_length_le (by rw [HN.out]; exact Nat.le_refl _)]
        rfl
      have HF := Lib.hid hfin
      clear hfin
      go_wp2_with fail
      go_ret2
      exact HF.out

set_option maxRecDepth 100000 in
set_option maxHeartbeats 1000000 in
theorem rasum_any (v : Value) (l : List Int) (w : World) (hv : SlAt (rpInt .i64) w v l) : Calls Tryz.prog 46 #[v] w (SumAIs l w) := by
  obtain ⟨a, c, rfl, hl1, hl2⟩ := hv.shape
  rw [maxLen_eq] at hl2
  obtain ⟨n, hn⟩ : ∃ n, n = l.length := ⟨_, rfl⟩
  rw [← hn] at hv hl1 ⊢
  have HV := Lib.hid hv
  have HN := Lib.hid hn
  clear hv hn
  have HG := Lib.hid (fun x w => rgood_any x w)
  go_enter Tryz.func46, Tryz.ntmps46
  go_wp2_with fail
  go_loopg [4, 5] n (fun g s i wr => ∃ (k : Nat) (x : Int), g = n - k ∧ k ≤ n ∧ i = .int .i64 k ∧ s = .int .i64 x ∧ goodA x = true ∧ sumA 0 l = sumA x (l.drop k) ∧ wr = w)
  case atStart => exact ⟨0, 0, rfl, by omega, rfl, rfl, by decide, rfl, rfl⟩
  case round =>
    rename World => wo
    obtain ⟨k, x, hgk, hk, rfl, rfl, hgx, hsx, rfl⟩ := hrel
    have HGK := Lib.hid hgk
    have HSX := Lib.hid hsx
    clear hgk hsx
    by_cases hlt : k < n
    · obtain ⟨b, o, y, rfl, hy, hwf, hc⟩ := HV.out.int hlt
      have hx2 := (goodA_iff x).1 hgx
      have hstep : sumA 0 l = if goodA y && goodA (x + y) then sumA (x + y) (l.drop (k + 1)) else (0, 3) := by
        rw [HSX.out]
        obtain ⟨h1, h2⟩ := List.getElem?_eq_some_iff.1 hy
        rw [List.drop_eq_getElem_cons h1, h2]
        rfl
      have HST := Lib.hid hstep
      clear hstep hy hgx hwf
      by_cases hgy : goodA y = true
      · have hy2 := (goodA_iff y).1 hgy
        by_cases hgz : goodA (x + y) = true
        · go_wp2_with (go_at_call 62; refine (HG.out _ wo).mono ?_; rintro e w' ⟨rfl, rfl⟩)
          go_roundg (n - (k + 1))
          case measure => have := HGK.out; omega
          case rel => exact ⟨k + 1, _, rfl, by omega, by go_num, rfl, hgz, by rw [HST.out, hgy, hgz]; rfl, rfl⟩
        · have hgz' : goodA (x + y) = false := by simpa using hgz
          have hfin : SumAIs l wo (.returned (.tuple #[.int .i64 0, .int .i64 3])) wo := by
            refine ⟨?_, rfl⟩
            rw [HST.out, hgz', Bool.and_false]
            rfl
          have HF := Lib.hid hfin
          clear hfin
          go_wp2_with (go_at_call 62; refine (HG.out _ wo).mono ?_; rintro e w' ⟨rfl, rfl⟩)
          go_ret2
          exact HF.out
      · have hgy' : goodA y = false := by simpa using hgy
        have hfin : SumAIs l wo (.returned (.tuple #[.int .i64 0, .int .i64 3])) wo := by
          refine ⟨?_, rfl⟩
          rw [HST.out, hgy', Bool.false_and]
          rfl
        have HF := Lib.hid hfin
        clear hfin
        go_wp2_with (go_at_call 62; refine (HG.out _ wo).mono ?_; rintro e w' ⟨rfl, rfl⟩)
        go_ret2
        exact HF.out
    · obtain rfl : k = n := by omega
      have hfin : SumAIs l wo (.returned (.tuple #[.int .i64 x, .int .i64 0])) wo := by
        refine ⟨?_, rfl⟩
        rw [HSX.out, List.drop_of_length_le (by rw [HN.out]; exact Nat.le_refl _)]
        rfl
      have HF := Lib.hid hfin
      clear hfin
      go_wp2_with fail
      go_ret2
      exact HF.out

/-! ### what a transaction pays -/
theorem info_int : (Tryz.prog.info? 3).map (fun i => (i.zero, i.size, i.bytes)) = some (some (.int .i64 0), 1, 8) := by kernel_rfl
def intCells (l : List Int) : List Value := l.map (.int .i64)
theorem SlAt.of_ints {w : World} {base n : Nat} {v : Value} {l : List Int} (h : w.ownsRow base 3 1 v n (intCells l)) (hn : n = l.length) (ho : ∀ x ∈ l, (Lit.int .i64 x).wf = true) : SlAt (rpInt .i64) w v l := by
  subst hn
  obtain ⟨a, c, rfl, h1, h2⟩ := ownsRow_shape h
  refine ⟨a, c, rfl, h1, h2, fun i x hi => ?_⟩
  have hil : i < l.length := (List.getElem?_eq_some_iff.1 hi).1
  obtain ⟨b, rfl, hb, hb2⟩ := ownsRow_some h (by omega)
  refine ⟨b, 0, [.int .i64 x], rfl, rfl, fun j u hj => ?_, rfl, ho x (List.mem_of_getElem? hi)⟩
  obtain rfl : j = 0 := by have := (List.getElem?_eq_some_iff.1 hj).1; simp at this; omega
  have := h.cells (g := b) rfl i u (by simp at hj; simp [intCells, hi, hj])
  rw [Addr.add_lit] at this
  simpa [rpInt] using this

/-- The call's box of the transaction that it was given. -/
structure TB (w : World) (va vo : Value) (t : PTx) (wr : World) : Prop where
  bel : Below w.heap.size w wr
  box : wr.heap[w.heap.size]? = some (.cells #[.int .u32 t.ver, va, vo, .int .u32 t.lock] 35 (0, 0))
  ins0 : SlAt rpIn w va t.ins
  outs0 : SlAt rpOut w vo t.outs
section
variable {w : World} {va vo : Value} {t : PTx} {wr : World}
theorem TB.lt (h : TB w va vo t wr) : w.heap.size < wr.heap.size := (Array.getElem?_eq_some_iff.1 h.box).1
theorem TB.next' {w' : World} (h : TB w va vo t wr) (hb : Below (w.heap.size + 1) wr w') : TB w va vo t w' :=
  ⟨h.bel.trans (hb.mono (Nat.le_succ _)), by rw [hb.block _ (Nat.lt_succ_self _)]; exact h.box, h.ins0, h.outs0⟩
theorem TB.next {w' : World} (h : TB w va vo t wr) (hb : Below wr.heap.size wr w') : TB w va vo t w' := h.next' (hb.mono h.lt)
theorem TB.start (hi : SlAt rpIn w va t.ins) (ho : SlAt rpOut w vo t.outs) : TB w va vo t (w.alloc (.cells #[.int .u32 t.ver, va, vo, .int .u32 t.lock] 35)) :=
  ⟨(Below.refl _ _).alloc (Nat.le_refl _) _, heap_alloc_new w _, hi, ho⟩
theorem TB.ins (h : TB w va vo t wr) : SlAt rpIn wr va t.ins := h.ins0.below h.bel
theorem TB.outs (h : TB w va vo t wr) : SlAt rpOut wr vo t.outs := h.outs0.below h.bel
end

def TotIs (t : PTx) (w : World) (e : Ending) (w' : World) : Prop := e = .returned (.tuple #[.int .i64 (sumA 0 (t.outs.map (·.val))).1, .int .i64 (sumA 0 (t.outs.map (·.val))).2]) ∧ Below w.heap.size w w'
theorem wf_of {x : Int} (h : -9223372036854775808 ≤ x ∧ x ≤ 9223372036854775807) : (Lit.int .i64 x).wf = true := by
  simpa [Lit.wf, IntKind.min, IntKind.max, IntKind.signed, IntKind.bits] using h
set_option maxRecDepth 100000 in
set_option maxHeartbeats 1000000 in
theorem total_any (v : Value) (t : PTx) (w : World) (hv : TxAt w v t) (hlen : t.outs.length ≤ 1000) : Calls Tryz.prog 24 #[v] w (TotIs t w) := by
  obtain ⟨va, vo, rfl, hia, hob, -, -⟩ := hv
  obtain ⟨a', c', rfl, hl1', hl2'⟩ := hob.shape
  rw [maxLen_eq] at hl2'
  have htb := TB.start hia hob
  have HTB := Lib.hid htb
  clear htb hia hob
  obtain ⟨n, hn⟩ : ∃ n, n = t.outs.length := ⟨_, rfl⟩
  rw [← hn] at hl1' HTB hlen ⊢
  have HN := Lib.hid hn
  clear hn
  go_enter Tryz.func24, Tryz.ntmps24
  go_upto_region 1 with fail
  generalize w.alloc (.cells #[.int .u32 t.ver, va, .slice a' n c', .int .u32 t.lock] 35) = w0 at *
  have c2 : w0.cell? ⟨w.heap.size, 2, none⟩ = some (.slice a' n c') := cell_at HTB.out.box
  go_wp2_with fail
  go_loopg [4, 10] n (fun g r i wr => ∃ (k : Nat), g = n - k ∧ k ≤ n ∧ i = .int .i64 k ∧ TB w va (.slice a' n c') t wr ∧ wr.ownsRow (w.heap.size + 1) 3 1 r k (intCells ((t.outs.take k).map (·.val))))
  case atStart => exact ⟨0, rfl, by omega, rfl, HTB.out, World.ownsRow_nil _ _ _ _⟩
  case round =>
    clear HTB c2
    rename World => wo
    obtain ⟨k, hgk, hk, rfl, htb, hown⟩ := hrel
    have HGK := Lib.hid hgk
    have HTB := Lib.hid htb
    have HOWN := Lib.hid hown
    have hszo := htb.lt
    clear hgk htb hown
    by_cases hlt : k < n
    · obtain ⟨b, o, x, rfl, hx, hok, d0, d1⟩ := HTB.out.outs.outp hlt
      have hnext : (t.outs.take (k + 1)).map (·.val) = (t.outs.take k).map (·.val) ++ [x.val] := by
        rw [List.take_add_one, hx]; simp
      have HNX := Lib.hid hnext
      clear hx hok hnext
      go_upto_region 5 with fail
      have hx0 := heap_alloc_new wo (.cells #[.int .i64 x.val, .string x.script] 48)
      have hbx : Below wo.heap.size wo (wo.alloc (.cells #[.int .i64 x.val, .string x.script] 48)) := (Below.refl _ _).alloc (Nat.le_refl _) _
      generalize wo.alloc (.cells #[.int .i64 x.val, .string x.script] 48) = wx at *
      have e0 : wx.cell? ⟨wo.heap.size, 0, none⟩ = some (.int .i64 x.val) := cell_at hx0
      have htx := HTB.out.next hbx
      have HT := Lib.hid htx
      have hsx := hbx.size
      obtain ⟨a6, c6, rfl, -, -⟩ := ownsRow_shape HOWN.out
      obtain ⟨i0, hi, hz0, hz1, hz2⟩ := info_parts info_int
      obtain ⟨a3, c3, w3, hrun, hown3, hb3, -⟩ := append_el (P := Tryz.prog) Tryz.underlying62 hi hz0 hz1 hz2 rfl (ownsRow_below HOWN.out hbx) #[.int .i64 x.val] rfl (by simp [Value.oneCell']) (by rw [maxLen_eq]; omega) (by have := HN.out; omega) (by omega) (ty := 62)
      clear hi hz0 hz1 hz2 i0
      have HR := Lib.hid hrun
      have HO3 := Lib.hid hown3
      have HB3 := Lib.hid hb3
      clear hrun hown3 hb3 hbx htx hx0
      go_wp2_with (at_builtin; refine wpList_append_run rfl (.tmp 14) (.tmp 17) 62 62 rfl rfl rfl HR.out ?_)
      go_roundg (n - (k + 1))
      case measure => have := HGK.out; omega
      case rel =>
        refine ⟨k + 1, rfl, by omega, by go_num, HT.out.next' HB3.out, ?_⟩
        rw [HNX.out]
        have := HO3.out
        simpa [intCells] using this
    · obtain rfl : k = n := by omega
      have htk : (t.outs.take k) = t.outs := List.take_of_length_le (by rw [HN.out]; exact Nat.le_refl _)
      have hsl : SlAt (rpInt .i64) wo _ (t.outs.map (·.val)) := SlAt.of_ints (by have := HOWN.out; rw [htk] at this; exact this) (by rw [List.length_map]; exact HN.out) (fun x hx => by
        obtain ⟨y, hy, rfl⟩ := List.mem_map.1 hx
        obtain ⟨i, hi⟩ := List.mem_iff_getElem?.1 hy
        obtain ⟨_, _, y', _, hy', hok, _, _⟩ := HTB.out.outs.outp (by rw [HN.out]; exact (List.getElem?_eq_some_iff.1 hi).1)
        rw [hi] at hy'
        obtain rfl := Option.some.inj hy'
        exact wf_of hok.1)
      have HSL := Lib.hid hsl
      clear hsl htk
      go_wp2_with fail
      refine (asum_any _ _ wo HSL.out).mono ?_
      rintro e w' ⟨rfl, rfl⟩
      have HF := Lib.hid (show TotIs t w _ _ from ⟨rfl, HTB.out.bel⟩)
      go_wp2_with fail
      go_ret2
      exact HF.out
set_option maxRecDepth 100000 in
set_option maxHeartbeats 1000000 in
theorem rtotal_any (v : Value) (t : PTx) (w : World) (hv : TxAt w v t) (hlen : t.outs.length ≤ 1000) : Calls Tryz.prog 47 #[v] w (TotIs t w) := by
  obtain ⟨va, vo, rfl, hia, hob, -, -⟩ := hv
  obtain ⟨a', c', rfl, hl1', hl2'⟩ := hob.shape
  rw [maxLen_eq] at hl2'
  have htb := TB.start hia hob
  have HTB := Lib.hid htb
  clear htb hia hob
  obtain ⟨n, hn⟩ : ∃ n, n = t.outs.length := ⟨_, rfl⟩
  rw [← hn] at hl1' HTB hlen ⊢
  have HN := Lib.hid hn
  clear hn
  go_enter Tryz.func47, Tryz.ntmps47
  go_upto_region 1 with fail
  generalize w.alloc (.cells #[.int .u32 t.ver, va, .slice a' n c', .int .u32 t.lock] 35) = w0 at *
  have c2 : w0.cell? ⟨w.heap.size, 2, none⟩ = some (.slice a' n c') := cell_at HTB.out.box
  go_wp2_with fail
  clear c2
  go_loopg [4, 5] n (fun g r i wr => ∃ (k : Nat), g = n - k ∧ k ≤ n ∧ i = .int .i64 k ∧ TB w va (.slice a' n c') t wr ∧ wr.ownsRow (w.heap.size + 1) 3 1 r k (intCells ((t.outs.take k).map (·.val))))
  case atStart => exact ⟨0, rfl, by omega, rfl, HTB.out, World.ownsRow_nil _ _ _ _⟩
  case round =>
    clear HTB
    rename World => wo
    obtain ⟨k, hgk, hk, rfl, htb, hown⟩ := hrel
    have HGK := Lib.hid hgk
    have HTB := Lib.hid htb
    have HOWN := Lib.hid hown
    have hszo := htb.lt
    have c2 : wo.cell? ⟨w.heap.size, 2, none⟩ = some (.slice a' n c') := cell_at htb.box
    clear hgk htb hown
    by_cases hlt : k < n
    · obtain ⟨b, o, x, rfl, hx, hok, d0, d1⟩ := HTB.out.outs.outp hlt
      have hnext : (t.outs.take (k + 1)).map (·.val) = (t.outs.take k).map (·.val) ++ [x.val] := by
        rw [List.take_add_one, hx]; simp
      have HNX := Lib.hid hnext
      clear hx hok hnext d1
      obtain ⟨a6, c6, rfl, -, -⟩ := ownsRow_shape HOWN.out
      obtain ⟨i0, hi, hz0, hz1, hz2⟩ := info_parts info_int
      obtain ⟨a3, c3, w3, hrun, hown3, hb3, -⟩ := append_el (P := Tryz.prog) Tryz.underlying62 hi hz0 hz1 hz2 rfl HOWN.out #[.int .i64 x.val] rfl (by simp [Value.oneCell']) (by rw [maxLen_eq]; omega) (by have := HN.out; omega) (by omega) (ty := 62)
      clear hi hz0 hz1 hz2 i0
      have HR := Lib.hid hrun
      have HO3 := Lib.hid hown3
      have HB3 := Lib.hid hb3
      clear hrun hown3 hb3
      go_wp2_with (at_builtin; refine wpList_append_run rfl (.tmp 13) (.tmp 20) 62 62 rfl rfl rfl HR.out ?_)
      go_roundg (n - (k + 1))
      case measure => have := HGK.out; omega
      case rel =>
        refine ⟨k + 1, rfl, by omega, by go_num, HTB.out.next' HB3.out, ?_⟩
        rw [HNX.out]
        have := HO3.out
        simpa [intCells] using this
    · obtain rfl : k = n := by omega
      have htk : (t.outs.take k) = t.outs := List.take_of_length_le (by rw [HN.out]; exact Nat.le_refl _)
      have hsl : SlAt (rpInt .i64) wo _ (t.outs.map (·.val)) := SlAt.of_ints (by have := HOWN.out; rw [htk] at this; exact this) (by rw [List.length_map]; exact HN.out) (fun x hx => by
        obtain ⟨y, hy, rfl⟩ := List.mem_map.1 hx
        obtain ⟨i, hi⟩ := List.mem_iff_getElem?.1 hy
        obtain ⟨_, _, y', _, hy', hok, _, _⟩ := HTB.out.outs.outp (by rw [HN.out]; exact (List.getElem?_eq_some_iff.1 hi).1)
        rw [hi] at hy'
        obtain rfl := Option.some.inj hy'
        exact wf_of hok.1)
      have HSL := Lib.hid hsl
      clear hsl htk
      go_wp2_with fail
      refine (rasum_any _ _ wo HSL.out).mono ?_
      rintro e w' ⟨rfl, rfl⟩
      have HF := Lib.hid (show TotIs t w _ _ from ⟨rfl, HTB.out.bel⟩)
      go_wp2_with fail
      go_ret2
      exact HF.out
end Go.Proofs.YtelindgnkpfkiaaGreatDoor
end

section
/-
  IndexFunc and ContainsFunc over Ins, Outs and texts, for any predicate. Conditions: the predicate's own contract.
-/
namespace Go.Proofs.YtelindgnkpfkiaaGreatDoor
open Go.RowKit Go.BigFrame
set_option linter.unusedVariables false
set_option linter.unusedSimpArgs false

/-- The first place of which p is true, or -1. -/
def IdxIs {α : Type} (p : α → Bool) (xs : List α) (n : Int) : Prop :=
  (n = -1 ∧ xs.any p = false) ∨ ∃ (k : Nat) (x : α), n = k ∧ xs[k]? = some x ∧ p x = true ∧ ∀ (j : Nat) (y : α), j < k → xs[j]? = some y → p y = false
theorem IdxIs.any {α : Type} {p : α → Bool} {xs : List α} {n : Int} (h : IdxIs p xs n) : decide (0 ≤ n) = xs.any p := by
  rcases h with ⟨rfl, h⟩ | ⟨k, x, rfl, h1, h2, -⟩
  · rw [h]; rfl
  · have : xs.any p = true := List.any_eq_true.2 ⟨x, List.mem_of_getElem? h1, h2⟩
    rw [this]; simp
theorem any_no {α : Type} {p : α → Bool} {xs : List α} {n : Nat} (hn : n = xs.length) (h : ∀ (j : Nat) (y : α), j < n → xs[j]? = some y → p y = false) : xs.any p = false := by
  rw [List.any_eq_false]
  intro x hx
  obtain ⟨j, hj, rfl⟩ := List.getElem_of_mem hx
  rw [h j _ (by omega) (List.getElem?_eq_getElem hj)]
  exact Bool.false_ne_true
theorem before_step {α : Type} {p : α → Bool} {xs : List α} {k : Nat} {x : α} (h : ∀ (j : Nat) (y : α), j < k → xs[j]? = some y → p y = false) (hx : xs[k]? = some x) (hp : p x = false) : ∀ (j : Nat) (y : α), j < k + 1 → xs[j]? = some y → p y = false := by
  intro j y hj hy
  rcases Nat.lt_or_ge j k with h1 | h1
  · exact h j y h1 hy
  · obtain rfl : j = k := by omega
    rw [hx] at hy
    obtain rfl := Option.some.inj hy
    exact hp

/-- An In as one value. -/
def InAt (w : World) (v : Value) (x : PIn) : Prop := ∃ wv, v = .agg #[.string x.id, .int .u32 x.idx, .int .u32 x.seq, wv] ∧ SlAt rpStr w wv x.wit ∧ x.idx < 4294967296 ∧ x.seq < 4294967296 ∧ x.id.size ≤ 9223372036854775807
def OutAt (w : World) (v : Value) (x : POut) : Prop := v = .agg #[.int .i64 x.val, .string x.script] ∧ OkOut x
def StrAt (w : World) (v : Value) (x : ByteArray) : Prop := v = .string x ∧ x.size ≤ 9223372036854775807

/-- The predicate's contract, wherever the call stands. -/
def PredCnt (w : World) (p : PIn → Bool) : Prop :=
  ∀ (w' : World) (v : Value) (x : PIn), Below w.heap.size w w' → InAt w' v x → Calls Tryz.prog 98 #[v] w' fun e w'' => e = .returned (.bool (p x)) ∧ Below w'.heap.size w' w''
set_option maxRecDepth 100000 in
set_option maxHeartbeats 2000000 in
theorem idxCnt (v : Value) (xs : List PIn) (p : PIn → Bool) (w : World) (hv : SlAt rpIn w v xs) (hp : PredCnt w p) :
    Calls Tryz.prog 77 #[v, .func (.func 98) #[] #[]] w fun e w' => (∃ n : Int, e = .returned (.int .i64 n) ∧ IdxIs p xs n) ∧ Below w.heap.size w w' := by
  obtain ⟨a, c, rfl, hl1, hl2⟩ := hv.shape
  rw [maxLen_eq] at hl2
  obtain ⟨n, hn⟩ : ∃ n, n = xs.length := ⟨_, rfl⟩
  rw [← hn] at hv hl1 ⊢
  have HN := Lib.hid hn
  have HP := Lib.hid hp
  clear hn hp
  go_enter Tryz.func77, Tryz.ntmps77
  go_wp2_with fail
  go_loopw [5, 8] (fun _ i wr => ∃ k : Nat, k ≤ n ∧ i = .int .i64 k ∧ Below w.heap.size w wr ∧ ∀ (j : Nat) (y : PIn), j < k → xs[j]? = some y → p y = false) (fun _ i _ => n - (intOf i).toNat)
  case atStart => exact ⟨0, Nat.zero_le _, rfl, Below.refl _ _, fun j x hj => absurd hj (Nat.not_lt_zero _)⟩
  case round =>
    rename World => wo
    obtain ⟨k, hk, rfl, hbw, hsame⟩ := hrel
    have HS := Lib.hid hsame
    have HW := Lib.hid hbw
    by_cases hlt : k < n
    · obtain ⟨b, o, x, wv, rfl, hx, hseq, hidx, hid, hwv, d0, d1, d2, d3⟩ := (hv.mono (below_cells hbw)).inp hlt
      have hc := HP.out wo (.agg #[.string x.id, .int .u32 x.idx, .int .u32 x.seq, wv]) x hbw ⟨wv, rfl, hwv, hidx, hseq, hid⟩
      have HX := Lib.hid hx
      obtain ⟨wa, wc, rfl, -, -⟩ := hwv.shape
      clear hx hseq hwv hbw hsame hv hidx hid
      cases hpx : p x
      · rw [hpx] at hc
        have HC := Lib.hid hc
        have HNX := Lib.hid (before_step HS.out HX.out hpx)
        clear hc hpx
        go_wp2_with fail
        refine HC.out.mono ?_
        rintro e w1 ⟨rfl, hb1⟩
        have HB1 := Lib.hid (HW.out.trans (hb1.mono HW.out.size))
        clear hb1
        go_wp2
        go_roundw
        case rel => exact ⟨k + 1, by omega, by go_num, HB1.out, HNX.out⟩
        case measure => simp [intOf]; omega
      · rw [hpx] at hc
        have HC := Lib.hid hc
        have HFN := Lib.hid (show IdxIs p xs (k : Int) from .inr ⟨k, x, rfl, HX.out, hpx, HS.out⟩)
        clear hc hpx
        go_wp2_with fail
        refine HC.out.mono ?_
        rintro e w1 ⟨rfl, hb1⟩
        have HB1 := Lib.hid (HW.out.trans (hb1.mono HW.out.size))
        clear hb1
        go_wp2
        go_ret
        exact ⟨⟨_, rfl, HFN.out⟩, HB1.out⟩
    · obtain rfl : k = n := by omega
      have HF := Lib.hid (any_no HN.out hsame)
      clear hsame hbw hv
      go_wp2
      go_ret
      exact ⟨⟨_, rfl, .inl ⟨rfl, HF.out⟩⟩, HW.out⟩
set_option maxHeartbeats 2000000 in
theorem conCnt (v : Value) (xs : List PIn) (p : PIn → Bool) (w : World) (hv : SlAt rpIn w v xs) (hp : PredCnt w p) :
    Calls Tryz.prog 53 #[v, .func (.func 98) #[] #[]] w fun e w' => e = .returned (.bool (xs.any p)) ∧ Below w.heap.size w w' := by
  have HI := Lib.hid (idxCnt v xs p w hv hp)
  obtain ⟨a, c, rfl, hl1, hl2⟩ := hv.shape
  clear hv hl1 hl2 hp
  generalize xs.length = n at *
  go_enter Tryz.func53, Tryz.ntmps53
  go_wp2_with fail
  refine HI.out.mono ?_
  rintro e w1 ⟨⟨m, rfl, hm⟩, hb1⟩
  have HM := Lib.hid hm.any
  clear hm
  go_wp2
  go_ret
  exact ⟨ret_bool HM.out, hb1⟩


/-- The predicate's contract, wherever the call stands. -/
def PredLngI (w : World) (cap : Value) (p : PIn → Bool) : Prop :=
  ∀ (w' : World) (v : Value) (x : PIn), Below w.heap.size w w' → InAt w' v x → Calls Tryz.prog 102 #[v, cap] w' fun e w'' => e = .returned (.bool (p x)) ∧ Below w'.heap.size w' w''
set_option maxRecDepth 100000 in
set_option maxHeartbeats 2000000 in
theorem idxLngI (v : Value) (xs : List PIn) (cap : Value) (p : PIn → Bool) (w : World) (hv : SlAt rpIn w v xs) (hp : PredLngI w cap p) :
    Calls Tryz.prog 77 #[v, .func (.func 102) #[] #[cap]] w fun e w' => (∃ n : Int, e = .returned (.int .i64 n) ∧ IdxIs p xs n) ∧ Below w.heap.size w w' := by
  obtain ⟨a, c, rfl, hl1, hl2⟩ := hv.shape
  rw [maxLen_eq] at hl2
  obtain ⟨n, hn⟩ : ∃ n, n = xs.length := ⟨_, rfl⟩
  rw [← hn] at hv hl1 ⊢
  have HN := Lib.hid hn
  have HP := Lib.hid hp
  clear hn hp
  go_enter Tryz.func77, Tryz.ntmps77
  go_wp2_with fail
  go_loopw [5, 8] (fun _ i wr => ∃ k : Nat, k ≤ n ∧ i = .int .i64 k ∧ Below w.heap.size w wr ∧ ∀ (j : Nat) (y : PIn), j < k → xs[j]? = some y → p y = false) (fun _ i _ => n - (intOf i).toNat)
  case atStart => exact ⟨0, Nat.zero_le _, rfl, Below.refl _ _, fun j x hj => absurd hj (Nat.not_lt_zero _)⟩
  case round =>
    rename World => wo
    obtain ⟨k, hk, rfl, hbw, hsame⟩ := hrel
    have HS := Lib.hid hsame
    have HW := Lib.hid hbw
    by_cases hlt : k < n
    · obtain ⟨b, o, x, wv, rfl, hx, hseq, hidx, hid, hwv, d0, d1, d2, d3⟩ := (hv.mono (below_cells hbw)).inp hlt
      have hc := HP.out wo (.agg #[.string x.id, .int .u32 x.idx, .int .u32 x.seq, wv]) x hbw ⟨wv, rfl, hwv, hidx, hseq, hid⟩
      have HX := Lib.hid hx
      obtain ⟨wa, wc, rfl, -, -⟩ := hwv.shape
      clear hx hseq hwv hbw hsame hv hidx hid
      cases hpx : p x
      · rw [hpx] at hc
        have HC := Lib.hid hc
        have HNX := Lib.hid (before_step HS.out HX.out hpx)
        clear hc hpx
        go_wp2_with fail
        refine HC.out.mono ?_
        rintro e w1 ⟨rfl, hb1⟩
        have HB1 := Lib.hid (HW.out.trans (hb1.mono HW.out.size))
        clear hb1
        go_wp2
        go_roundw
        case rel => exact ⟨k + 1, by omega, by go_num, HB1.out, HNX.out⟩
        case measure => simp [intOf]; omega
      · rw [hpx] at hc
        have HC := Lib.hid hc
        have HFN := Lib.hid (show IdxIs p xs (k : Int) from .inr ⟨k, x, rfl, HX.out, hpx, HS.out⟩)
        clear hc hpx
        go_wp2_with fail
        refine HC.out.mono ?_
        rintro e w1 ⟨rfl, hb1⟩
        have HB1 := Lib.hid (HW.out.trans (hb1.mono HW.out.size))
        clear hb1
        go_wp2
        go_ret
        exact ⟨⟨_, rfl, HFN.out⟩, HB1.out⟩
    · obtain rfl : k = n := by omega
      have HF := Lib.hid (any_no HN.out hsame)
      clear hsame hbw hv
      go_wp2
      go_ret
      exact ⟨⟨_, rfl, .inl ⟨rfl, HF.out⟩⟩, HW.out⟩
set_option maxHeartbeats 2000000 in
theorem conLngI (v : Value) (xs : List PIn) (cap : Value) (p : PIn → Bool) (w : World) (hv : SlAt rpIn w v xs) (hp : PredLngI w cap p) :
    Calls Tryz.prog 53 #[v, .func (.func 102) #[] #[cap]] w fun e w' => e = .returned (.bool (xs.any p)) ∧ Below w.heap.size w w' := by
  have HI := Lib.hid (idxLngI v xs cap p w hv hp)
  obtain ⟨a, c, rfl, hl1, hl2⟩ := hv.shape
  clear hv hl1 hl2 hp
  generalize xs.length = n at *
  go_enter Tryz.func53, Tryz.ntmps53
  go_wp2_with fail
  refine HI.out.mono ?_
  rintro e w1 ⟨⟨m, rfl, hm⟩, hb1⟩
  have HM := Lib.hid hm.any
  clear hm
  go_wp2
  go_ret
  exact ⟨ret_bool HM.out, hb1⟩


/-- The predicate's contract, wherever the call stands. -/
def PredLngO (w : World) (p : POut → Bool) : Prop :=
  ∀ (w' : World) (v : Value) (x : POut), Below w.heap.size w w' → OutAt w' v x → Calls Tryz.prog 101 #[v] w' fun e w'' => e = .returned (.bool (p x)) ∧ Below w'.heap.size w' w''
set_option maxRecDepth 100000 in
set_option maxHeartbeats 2000000 in
theorem idxLngO (v : Value) (xs : List POut) (p : POut → Bool) (w : World) (hv : SlAt rpOut w v xs) (hp : PredLngO w p) :
    Calls Tryz.prog 110 #[v, .func (.func 101) #[] #[]] w fun e w' => (∃ n : Int, e = .returned (.int .i64 n) ∧ IdxIs p xs n) ∧ Below w.heap.size w w' := by
  obtain ⟨a, c, rfl, hl1, hl2⟩ := hv.shape
  rw [maxLen_eq] at hl2
  obtain ⟨n, hn⟩ : ∃ n, n = xs.length := ⟨_, rfl⟩
  rw [← hn] at hv hl1 ⊢
  have HN := Lib.hid hn
  have HP := Lib.hid hp
  clear hn hp
  go_enter Tryz.func110, Tryz.ntmps110
  go_wp2_with fail
  go_loopw [5, 8] (fun _ i wr => ∃ k : Nat, k ≤ n ∧ i = .int .i64 k ∧ Below w.heap.size w wr ∧ ∀ (j : Nat) (y : POut), j < k → xs[j]? = some y → p y = false) (fun _ i _ => n - (intOf i).toNat)
  case atStart => exact ⟨0, Nat.zero_le _, rfl, Below.refl _ _, fun j x hj => absurd hj (Nat.not_lt_zero _)⟩
  case round =>
    rename World => wo
    obtain ⟨k, hk, rfl, hbw, hsame⟩ := hrel
    have HS := Lib.hid hsame
    have HW := Lib.hid hbw
    by_cases hlt : k < n
    · obtain ⟨b, o, x, rfl, hx, hok, d0, d1⟩ := (hv.mono (below_cells hbw)).outp hlt
      have hc := HP.out wo (.agg #[.int .i64 x.val, .string x.script]) x hbw ⟨rfl, hok⟩
      have HX := Lib.hid hx
      clear hx hok hbw hsame hv
      cases hpx : p x
      · rw [hpx] at hc
        have HC := Lib.hid hc
        have HNX := Lib.hid (before_step HS.out HX.out hpx)
        clear hc hpx
        go_wp2_with fail
        refine HC.out.mono ?_
        rintro e w1 ⟨rfl, hb1⟩
        have HB1 := Lib.hid (HW.out.trans (hb1.mono HW.out.size))
        clear hb1
        go_wp2
        go_roundw
        case rel => exact ⟨k + 1, by omega, by go_num, HB1.out, HNX.out⟩
        case measure => simp [intOf]; omega
      · rw [hpx] at hc
        have HC := Lib.hid hc
        have HFN := Lib.hid (show IdxIs p xs (k : Int) from .inr ⟨k, x, rfl, HX.out, hpx, HS.out⟩)
        clear hc hpx
        go_wp2_with fail
        refine HC.out.mono ?_
        rintro e w1 ⟨rfl, hb1⟩
        have HB1 := Lib.hid (HW.out.trans (hb1.mono HW.out.size))
        clear hb1
        go_wp2
        go_ret
        exact ⟨⟨_, rfl, HFN.out⟩, HB1.out⟩
    · obtain rfl : k = n := by omega
      have HF := Lib.hid (any_no HN.out hsame)
      clear hsame hbw hv
      go_wp2
      go_ret
      exact ⟨⟨_, rfl, .inl ⟨rfl, HF.out⟩⟩, HW.out⟩
set_option maxHeartbeats 2000000 in
theorem conLngO (v : Value) (xs : List POut) (p : POut → Bool) (w : World) (hv : SlAt rpOut w v xs) (hp : PredLngO w p) :
    Calls Tryz.prog 100 #[v, .func (.func 101) #[] #[]] w fun e w' => e = .returned (.bool (xs.any p)) ∧ Below w.heap.size w w' := by
  have HI := Lib.hid (idxLngO v xs p w hv hp)
  obtain ⟨a, c, rfl, hl1, hl2⟩ := hv.shape
  clear hv hl1 hl2 hp
  generalize xs.length = n at *
  go_enter Tryz.func100, Tryz.ntmps100
  go_wp2_with fail
  refine HI.out.mono ?_
  rintro e w1 ⟨⟨m, rfl, hm⟩, hb1⟩
  have HM := Lib.hid hm.any
  clear hm
  go_wp2
  go_ret
  exact ⟨ret_bool HM.out, hb1⟩


/-- The predicate's contract, wherever the call stands. -/
def PredLngS (w : World) (p : ByteArray → Bool) : Prop :=
  ∀ (w' : World) (v : Value) (x : ByteArray), Below w.heap.size w w' → StrAt w' v x → Calls Tryz.prog 99 #[v] w' fun e w'' => e = .returned (.bool (p x)) ∧ Below w'.heap.size w' w''
set_option maxRecDepth 100000 in
set_option maxHeartbeats 2000000 in
theorem idxLngS (v : Value) (xs : List ByteArray) (p : ByteArray → Bool) (w : World) (hv : SlAt rpStr w v xs) (hp : PredLngS w p) :
    Calls Tryz.prog 111 #[v, .func (.func 99) #[] #[]] w fun e w' => (∃ n : Int, e = .returned (.int .i64 n) ∧ IdxIs p xs n) ∧ Below w.heap.size w w' := by
  obtain ⟨a, c, rfl, hl1, hl2⟩ := hv.shape
  rw [maxLen_eq] at hl2
  obtain ⟨n, hn⟩ : ∃ n, n = xs.length := ⟨_, rfl⟩
  rw [← hn] at hv hl1 ⊢
  have HN := Lib.hid hn
  have HP := Lib.hid hp
  clear hn hp
  go_enter Tryz.func111, Tryz.ntmps111
  go_wp2_with fail
  go_loopw [5, 8] (fun _ i wr => ∃ k : Nat, k ≤ n ∧ i = .int .i64 k ∧ Below w.heap.size w wr ∧ ∀ (j : Nat) (y : ByteArray), j < k → xs[j]? = some y → p y = false) (fun _ i _ => n - (intOf i).toNat)
  case atStart => exact ⟨0, Nat.zero_le _, rfl, Below.refl _ _, fun j x hj => absurd hj (Nat.not_lt_zero _)⟩
  case round =>
    rename World => wo
    obtain ⟨k, hk, rfl, hbw, hsame⟩ := hrel
    have HS := Lib.hid hsame
    have HW := Lib.hid hbw
    by_cases hlt : k < n
    · obtain ⟨b, o, x, rfl, hx, hok, d0⟩ := (hv.mono (below_cells hbw)).str hlt
      have hc := HP.out wo (.string x) x hbw ⟨rfl, hok⟩
      have HX := Lib.hid hx
      clear hx hok hbw hsame hv
      cases hpx : p x
      · rw [hpx] at hc
        have HC := Lib.hid hc
        have HNX := Lib.hid (before_step HS.out HX.out hpx)
        clear hc hpx
        go_wp2_with fail
        refine HC.out.mono ?_
        rintro e w1 ⟨rfl, hb1⟩
        have HB1 := Lib.hid (HW.out.trans (hb1.mono HW.out.size))
        clear hb1
        go_wp2
        go_roundw
        case rel => exact ⟨k + 1, by omega, by go_num, HB1.out, HNX.out⟩
        case measure => simp [intOf]; omega
      · rw [hpx] at hc
        have HC := Lib.hid hc
        have HFN := Lib.hid (show IdxIs p xs (k : Int) from .inr ⟨k, x, rfl, HX.out, hpx, HS.out⟩)
        clear hc hpx
        go_wp2_with fail
        refine HC.out.mono ?_
        rintro e w1 ⟨rfl, hb1⟩
        have HB1 := Lib.hid (HW.out.trans (hb1.mono HW.out.size))
        clear hb1
        go_wp2
        go_ret
        exact ⟨⟨_, rfl, HFN.out⟩, HB1.out⟩
    · obtain rfl : k = n := by omega
      have HF := Lib.hid (any_no HN.out hsame)
      clear hsame hbw hv
      go_wp2
      go_ret
      exact ⟨⟨_, rfl, .inl ⟨rfl, HF.out⟩⟩, HW.out⟩
set_option maxHeartbeats 2000000 in
theorem conLngS (v : Value) (xs : List ByteArray) (p : ByteArray → Bool) (w : World) (hv : SlAt rpStr w v xs) (hp : PredLngS w p) :
    Calls Tryz.prog 103 #[v, .func (.func 99) #[] #[]] w fun e w' => e = .returned (.bool (xs.any p)) ∧ Below w.heap.size w w' := by
  have HI := Lib.hid (idxLngS v xs p w hv hp)
  obtain ⟨a, c, rfl, hl1, hl2⟩ := hv.shape
  clear hv hl1 hl2 hp
  generalize xs.length = n at *
  go_enter Tryz.func103, Tryz.ntmps103
  go_wp2_with fail
  refine HI.out.mono ?_
  rintro e w1 ⟨⟨m, rfl, hm⟩, hb1⟩
  have HM := Lib.hid hm.any
  clear hm
  go_wp2
  go_ret
  exact ⟨ret_bool HM.out, hb1⟩

end Go.Proofs.YtelindgnkpfkiaaGreatDoor
end
