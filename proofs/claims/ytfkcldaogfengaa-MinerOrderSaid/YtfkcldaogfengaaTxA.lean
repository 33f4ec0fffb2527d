/-
  Amounts, and what a transaction pays in all. Conditions: none beyond each theorem's own.
-/
import Derived.Test.YtfkcldaogfengaaTxo
import Derived.Test.YtfkcldaogfengaaConv
import Derived.Test.YtfkcldaogfengaaTail
import Derived.BigQuiet
import Derived.Deep.QuietTactic
import Derived.Deep.RegionHeld3
import Derived.OwnWalk
import Derived.Deep.LoopGhost
import Derived.Deep.DeepCutAuto
import Derived.Deep.CutBlock
namespace Go.Proofs.Ytfkcldaogfengaa
open Go.RowKit Go.BigFrame
set_option linter.unusedVariables false
set_option linter.unusedSimpArgs false

def goodA (a : Int) : Bool := decide (0 ≤ a) && decide (a ≤ 2100000000000000)
theorem goodA_iff (a : Int) : goodA a = true ↔ 0 ≤ a ∧ a ≤ 2100000000000000 := by unfold goodA; simp
def sumA : Int → List Int → Int × Int
  | s, [] => (s, 0)
  | s, a :: r => if goodA a && goodA (s + a) then sumA (s + a) r else (0, 3)

set_option maxHeartbeats 400000 in
theorem awithin_any (a m : Int) (w : World) : Calls Try.prog 61 #[.int .i64 a, .int .i64 m] w fun e w' => e = .returned (.bool (decide (0 ≤ a) && decide (a ≤ m))) ∧ w = w' := by
  go_enter Try.func61, Try.ntmps61
  by_cases h0 : 0 ≤ a
  · go_wp2
    go_ret
    exact ⟨by simp [h0], rfl⟩
  · go_wp2
    go_ret
    exact ⟨by rw [decide_eq_false (show ¬ 0 ≤ a from Int.not_le.2 h0)]; rfl, rfl⟩
set_option maxHeartbeats 400000 in
theorem good_any (a : Int) (w : World) : Calls Try.prog 60 #[.int .i64 a] w fun e w' => e = .returned (.bool (goodA a)) ∧ w = w' := by
  go_enter Try.func60, Try.ntmps60
  go_wp2_with (go_at_call 61; refine (awithin_any a 2100000000000000 w).mono ?_; rintro e w' ⟨rfl, rfl⟩)
  go_ret
  exact ⟨rfl, rfl⟩
set_option maxHeartbeats 400000 in
theorem rgood_any (a : Int) (w : World) : Calls Try.prog 30 #[.int .i64 a] w fun e w' => e = .returned (.bool (goodA a)) ∧ w = w' := by
  unfold goodA
  go_enter Try.func30, Try.ntmps30
  by_cases h0 : 0 ≤ a
  · go_wp2
    go_ret
    exact ⟨by simp [h0], rfl⟩
  · go_wp2
    go_ret
    exact ⟨by rw [decide_eq_false (show ¬ 0 ≤ a from Int.not_le.2 h0)]; rfl, rfl⟩
/-- What Add answers of a sum that may be. -/
def addA (s a : Int) : Int × Int := if goodA a && goodA (s + a) then (s + a, 0) else (0, 3)
def AddIs (s a : Int) (w : World) (e : Ending) (w' : World) : Prop := e = .returned (.tuple #[.int .i64 (addA s a).1, .int .i64 (addA s a).2]) ∧ w = w'
theorem sumA_step (s a : Int) (r : List Int) : sumA s (a :: r) = if (addA s a).2 = 0 then sumA (addA s a).1 r else (0, 3) := by
  show (if goodA a && goodA (s + a) then sumA (s + a) r else (0, 3)) = _
  unfold addA
  by_cases h : (goodA a && goodA (s + a)) = true
  · rw [if_pos h, if_pos h, if_pos rfl]
  · rw [if_neg h, if_neg h, if_neg (by decide)]
theorem addA_ok {s a : Int} (h : (addA s a).2 = 0) : goodA (addA s a).1 = true ∧ goodA a = true ∧ (addA s a).1 = s + a := by
  unfold addA at *
  by_cases hg : (goodA a && goodA (s + a)) = true
  · rw [if_pos hg]
    simp only [Bool.and_eq_true] at hg
    exact ⟨hg.2, hg.1, rfl⟩
  · rw [if_neg hg] at h
    simp at h
theorem addA_no {s a : Int} (h : (addA s a).2 ≠ 0) : addA s a = (0, 3) := by
  unfold addA at *
  by_cases hg : (goodA a && goodA (s + a)) = true
  · rw [if_pos hg] at h
    exact absurd rfl h
  · rw [if_neg hg]

theorem SlAt.int {k : IntKind} {w : World} {a : Option Addr} {n c i : Nat} {xs : List Int} (h : SlAt (rpInt k) w (.slice a n c) xs) (hi : i < n) : ∃ (b o : Nat) (x : Int), a = some ⟨b, o, none⟩ ∧ xs[i]? = some x ∧ (Lit.int k x).wf = true ∧ w.cell? ⟨b, o + i, none⟩ = some (.int k x) := by
  obtain ⟨b, o, x, cs, h1, h2, h3, h4, h5, h6⟩ := h.at hi
  subst h5
  refine ⟨b, o, x, h1, h2, h6, ?_⟩
  have := h4 0 _ rfl
  simpa [rpInt] using this

def SumAIs (l : List Int) (w : World) (e : Ending) (w' : World) : Prop := e = .returned (.tuple #[.int .i64 (sumA 0 l).1, .int .i64 (sumA 0 l).2]) ∧ w = w'
set_option maxRecDepth 100000 in
set_option maxHeartbeats 1000000 in
theorem rasum_any (v : Value) (l : List Int) (w : World) (hv : SlAt (rpInt .i64) w v l) : Calls Try.prog 63 #[v] w (SumAIs l w) := by
  obtain ⟨a, c, rfl, hl1, hl2⟩ := hv.shape
  rw [maxLen_eq] at hl2
  obtain ⟨n, hn⟩ : ∃ n, n = l.length := ⟨_, rfl⟩
  rw [← hn] at hv hl1 ⊢
  have HV := Lib.hid hv
  have HN := Lib.hid hn
  clear hv hn
  have HG := Lib.hid (fun x w => rgood_any x w)
  go_enter Try.func63, Try.ntmps63
  go_wp2_with fail
  go_loopg [4, 5] n (fun g s i wr => ∃ (k : Nat) (x : Int), g = n - k ∧ k ≤ n ∧ i = .int .i64 k ∧ s = .int .i64 x ∧ goodA x = true ∧ sumA 0 l = sumA x (l.drop k) ∧ wr = w)
  case atStart => exact ⟨0, 0, rfl, by omega, rfl, rfl, by decide, rfl, rfl⟩
  case round =>
    rename World => wo
    obtain ⟨k, x, hgk, hk, rfl, rfl, hgx, hsx, rfl⟩ := hrel
    have HGK := Lib.hid hgk
    have HSX := Lib.hid hsx
    clear hgk hsx
    by_cases hlt : k < n
    · obtain ⟨b, o, y, rfl, hy, hwf, hc⟩ := HV.out.int hlt
      have hx2 := (goodA_iff x).1 hgx
      have hstep : sumA 0 l = if goodA y && goodA (x + y) then sumA (x + y) (l.drop (k + 1)) else (0, 3) := by
        rw [HSX.out]
        obtain ⟨h1, h2⟩ := List.getElem?_eq_some_iff.1 hy
        rw [List.drop_eq_getElem_cons h1, h2]
        rfl
      have HST := Lib.hid hstep
      clear hstep hy hgx hwf
      by_cases hgy : goodA y = true
      · have hy2 := (goodA_iff y).1 hgy
        by_cases hgz : goodA (x + y) = true
        · go_wp2_with (go_at_call 30; refine (HG.out _ wo).mono ?_; rintro e w' ⟨rfl, rfl⟩)
          go_roundg (n - (k + 1))
          case measure => have := HGK.out; omega
          case rel => exact ⟨k + 1, _, rfl, by omega, by go_num, rfl, hgz, by rw [HST.out, hgy, hgz]; rfl, rfl⟩
        · have hgz' : goodA (x + y) = false := by simpa using hgz
          have hfin : SumAIs l wo (.returned (.tuple #[.int .i64 0, .int .i64 3])) wo := by
            refine ⟨?_, rfl⟩
            rw [HST.out, hgz', Bool.and_false]
            rfl
          have HF := Lib.hid hfin
          clear hfin
          go_wp2_with (go_at_call 30; refine (HG.out _ wo).mono ?_; rintro e w' ⟨rfl, rfl⟩)
          go_ret2
          exact HF.out
      · have hgy' : goodA y = false := by simpa using hgy
        have hfin : SumAIs l wo (.returned (.tuple #[.int .i64 0, .int .i64 3])) wo := by
          refine ⟨?_, rfl⟩
          rw [HST.out, hgy', Bool.false_and]
          rfl
        have HF := Lib.hid hfin
        clear hfin
        go_wp2_with (go_at_call 30; refine (HG.out _ wo).mono ?_; rintro e w' ⟨rfl, rfl⟩)
        go_ret2
        exact HF.out
    · obtain rfl : k = n := by omega
      have hfin : SumAIs l wo (.returned (.tuple #[.int .i64 x, .int .i64 0])) wo := by
        refine ⟨?_, rfl⟩
        rw [HSX.out, List.drop_of_length_le (by rw [HN.out]; exact Nat.le_refl _)]
        rfl
      have HF := Lib.hid hfin
      clear hfin
      go_wp2_with fail
      go_ret2
      exact HF.out

/-! ### what a transaction pays -/
theorem info_int : (Try.prog.info? 3).map (fun i => (i.zero, i.size, i.bytes)) = some (some (.int .i64 0), 1, 8) := by kernel_rfl
def intCells (l : List Int) : List Value := l.map (.int .i64)
theorem SlAt.of_ints {w : World} {base n : Nat} {v : Value} {l : List Int} (h : w.ownsRow base 3 1 v n (intCells l)) (hn : n = l.length) (ho : ∀ x ∈ l, (Lit.int .i64 x).wf = true) : SlAt (rpInt .i64) w v l := by
  subst hn
  obtain ⟨a, c, rfl, h1, h2⟩ := ownsRow_shape h
  refine ⟨a, c, rfl, h1, h2, fun i x hi => ?_⟩
  have hil : i < l.length := (List.getElem?_eq_some_iff.1 hi).1
  obtain ⟨b, rfl, hb, hb2⟩ := ownsRow_some h (by omega)
  refine ⟨b, 0, [.int .i64 x], rfl, rfl, fun j u hj => ?_, rfl, ho x (List.mem_of_getElem? hi)⟩
  obtain rfl : j = 0 := by have := (List.getElem?_eq_some_iff.1 hj).1; simp at this; omega
  have := h.cells (g := b) rfl i u (by simp at hj; simp [intCells, hi, hj])
  rw [Addr.add_lit] at this
  simpa [rpInt] using this

/-- The call's box of the transaction that it was given. -/
structure TB (w : World) (va vo : Value) (t : PTx) (wr : World) : Prop where
  bel : Below w.heap.size w wr
  box : wr.heap[w.heap.size]? = some (.cells #[.int .u32 t.ver, va, vo, .int .u32 t.lock] 41 (0, 0))
  ins0 : SlAt rpIn w va t.ins
  outs0 : SlAt rpOut w vo t.outs
section
variable {w : World} {va vo : Value} {t : PTx} {wr : World}
theorem TB.lt (h : TB w va vo t wr) : w.heap.size < wr.heap.size := (Array.getElem?_eq_some_iff.1 h.box).1
theorem TB.next' {w' : World} (h : TB w va vo t wr) (hb : Below (w.heap.size + 1) wr w') : TB w va vo t w' :=
  ⟨h.bel.trans (hb.mono (Nat.le_succ _)), by rw [hb.block _ (Nat.lt_succ_self _)]; exact h.box, h.ins0, h.outs0⟩
theorem TB.next {w' : World} (h : TB w va vo t wr) (hb : Below wr.heap.size wr w') : TB w va vo t w' := h.next' (hb.mono h.lt)
theorem TB.start (hi : SlAt rpIn w va t.ins) (ho : SlAt rpOut w vo t.outs) : TB w va vo t (w.alloc (.cells #[.int .u32 t.ver, va, vo, .int .u32 t.lock] 41)) :=
  ⟨(Below.refl _ _).alloc (Nat.le_refl _) _, heap_alloc_new w _, hi, ho⟩
theorem TB.ins (h : TB w va vo t wr) : SlAt rpIn wr va t.ins := h.ins0.below h.bel
theorem TB.outs (h : TB w va vo t wr) : SlAt rpOut wr vo t.outs := h.outs0.below h.bel
end

def TotIs (t : PTx) (w : World) (e : Ending) (w' : World) : Prop := e = .returned (.tuple #[.int .i64 (sumA 0 (t.outs.map (·.val))).1, .int .i64 (sumA 0 (t.outs.map (·.val))).2]) ∧ Below w.heap.size w w'
theorem wf_of {x : Int} (h : -9223372036854775808 ≤ x ∧ x ≤ 9223372036854775807) : (Lit.int .i64 x).wf = true := by
  simpa [Lit.wf, IntKind.min, IntKind.max, IntKind.signed, IntKind.bits] using h
set_option maxRecDepth 100000 in
set_option maxHeartbeats 1000000 in
theorem rtotal_any (v : Value) (t : PTx) (w : World) (hv : TxAt w v t) (hlen : t.outs.length ≤ 1000) : Calls Try.prog 52 #[v] w (TotIs t w) := by
  obtain ⟨va, vo, rfl, hia, hob, -, -⟩ := hv
  obtain ⟨a', c', rfl, hl1', hl2'⟩ := hob.shape
  rw [maxLen_eq] at hl2'
  have htb := TB.start hia hob
  have HTB := Lib.hid htb
  clear htb hia hob
  obtain ⟨n, hn⟩ : ∃ n, n = t.outs.length := ⟨_, rfl⟩
  rw [← hn] at hl1' HTB hlen ⊢
  have HN := Lib.hid hn
  clear hn
  go_enter Try.func52, Try.ntmps52
  go_upto_region 1 with fail
  generalize w.alloc (.cells #[.int .u32 t.ver, va, .slice a' n c', .int .u32 t.lock] 41) = w0 at *
  have c2 : w0.cell? ⟨w.heap.size, 2, none⟩ = some (.slice a' n c') := cell_at HTB.out.box
  go_wp2_with fail
  clear c2
  go_loopg [4, 5] n (fun g r i wr => ∃ (k : Nat), g = n - k ∧ k ≤ n ∧ i = .int .i64 k ∧ TB w va (.slice a' n c') t wr ∧ wr.ownsRow (w.heap.size + 1) 3 1 r k (intCells ((t.outs.take k).map (·.val))))
  case atStart => exact ⟨0, rfl, by omega, rfl, HTB.out, World.ownsRow_nil _ _ _ _⟩
  case round =>
    clear HTB
    rename World => wo
    obtain ⟨k, hgk, hk, rfl, htb, hown⟩ := hrel
    have HGK := Lib.hid hgk
    have HTB := Lib.hid htb
    have HOWN := Lib.hid hown
    have hszo := htb.lt
    have c2 : wo.cell? ⟨w.heap.size, 2, none⟩ = some (.slice a' n c') := cell_at htb.box
    clear hgk htb hown
    by_cases hlt : k < n
    · obtain ⟨b, o, x, rfl, hx, hok, d0, d1⟩ := HTB.out.outs.outp hlt
      have hnext : (t.outs.take (k + 1)).map (·.val) = (t.outs.take k).map (·.val) ++ [x.val] := by
        rw [List.take_add_one, hx]; simp
      have HNX := Lib.hid hnext
      clear hx hok hnext d1
      obtain ⟨a6, c6, rfl, -, -⟩ := ownsRow_shape HOWN.out
      obtain ⟨i0, hi, hz0, hz1, hz2⟩ := info_parts info_int
      obtain ⟨a3, c3, w3, hrun, hown3, hb3, -⟩ := append_el (P := Try.prog) Try.underlying23 hi hz0 hz1 hz2 rfl HOWN.out #[.int .i64 x.val] rfl (by simp [Value.oneCell']) (by rw [maxLen_eq]; omega) (by have := HN.out; omega) (by omega) (ty := 23)
      clear hi hz0 hz1 hz2 i0
      have HR := Lib.hid hrun
      have HO3 := Lib.hid hown3
      have HB3 := Lib.hid hb3
      clear hrun hown3 hb3
      go_wp2_with (at_builtin; refine wpList_append_run rfl (.tmp 13) (.tmp 20) 23 23 rfl rfl rfl HR.out ?_)
      go_roundg (n - (k + 1))
      case measure => have := HGK.out; omega
      case rel =>
        refine ⟨k + 1, rfl, by omega, by go_num, HTB.out.next' HB3.out, ?_⟩
        rw [HNX.out]
        have := HO3.out
        simpa [intCells] using this
    · obtain rfl : k = n := by omega
      have htk : (t.outs.take k) = t.outs := List.take_of_length_le (by rw [HN.out]; exact Nat.le_refl _)
      have hsl : SlAt (rpInt .i64) wo _ (t.outs.map (·.val)) := SlAt.of_ints (by have := HOWN.out; rw [htk] at this; exact this) (by rw [List.length_map]; exact HN.out) (fun x hx => by
        obtain ⟨y, hy, rfl⟩ := List.mem_map.1 hx
        obtain ⟨i, hi⟩ := List.mem_iff_getElem?.1 hy
        obtain ⟨_, _, y', _, hy', hok, _, _⟩ := HTB.out.outs.outp (by rw [HN.out]; exact (List.getElem?_eq_some_iff.1 hi).1)
        rw [hi] at hy'
        obtain rfl := Option.some.inj hy'
        exact wf_of hok.1)
      have HSL := Lib.hid hsl
      clear hsl htk
      go_wp2_with fail
      refine (rasum_any _ _ wo HSL.out).mono ?_
      rintro e w' ⟨rfl, rfl⟩
      have HF := Lib.hid (show TotIs t w _ _ from ⟨rfl, HTB.out.bel⟩)
      go_wp2_with fail
      go_ret2
      exact HF.out
end Go.Proofs.Ytfkcldaogfengaa
