/-
  The document's reserves: a lease released, a lease restored. Conditions: the leases lie in memory.
-/
import Derived.Test.YtelindgnkpfkiaaVv
namespace Go.Proofs.Ytelindgnkpfkiaa
open Go.RowKit Go.BigFrame Go.Maps
set_option linter.unusedVariables false
set_option linter.unusedSimpArgs false

def RsP (tag : Nat) (sv : Value) (r : PLs × Int) (w : World) (e : Ending) (w' : World) : Prop := ∃ v, e = .returned (.tuple #[.agg #[.int .u16 tag, v], .int .i64 r.2]) ∧ SlAt rpLs w' v r.1 ∧ Below w.heap.size w w' ∧ (v = sv ∨ ∀ B, v.ownBlock = some B → w.heap.size ≤ B)
theorem erase_ne {L : PLs} {k n : Nat} {e : Int × Pt} (he : L[k]? = some e) (hne : k ≠ n) : (L.take (k + 1)).eraseIdx n = (L.take k).eraseIdx n ++ [e] := by
  have hk : k < L.length := (List.getElem?_eq_some_iff.1 he).1
  have hl : (L.take k).length = k := by rw [List.length_take]; omega
  rw [take_snoc he]
  rcases Nat.lt_or_ge n k with h | h
  · rw [List.eraseIdx_append_of_lt_length (by omega)]
  · rw [List.eraseIdx_of_length_le (by rw [List.length_append]; simp; omega), List.eraseIdx_of_length_le (by omega)]
theorem erase_eq {L : PLs} {k : Nat} {e : Int × Pt} (he : L[k]? = some e) : (L.take (k + 1)).eraseIdx k = (L.take k).eraseIdx k := by
  have hk : k < L.length := (List.getElem?_eq_some_iff.1 he).1
  have hl : (L.take k).length = k := by rw [List.length_take]; omega
  rw [take_snoc he, List.eraseIdx_append_of_length_le (by omega), hl, Nat.sub_self, List.eraseIdx_of_length_le (l := L.take k) (by omega)]
  simp
structure QSt (w : World) (X Q tag : Nat) (sv : Value) (v : Value) (acc : PLs) (wr : World) : Prop where
  bel : Below w.heap.size w wr
  base : X = w.heap.size
  qx : X + 1 < Q
  b0 : wr.heap[X]? = some (.cells #[.int .u16 tag, sv] 61 (0, 0))
  b1 : wr.heap[X + 1]? = some (.cells #[.int .u16 0, .slice none 0 0] 61 (0, 0))
  bq : wr.heap[Q]? = some (.cells #[.int .u16 tag, v] 61 (0, 0))
  own : LsOwn (Q + 1) wr v acc
theorem QSt.below {w wr w' : World} {X Q tag : Nat} {sv v : Value} {acc : PLs} (h : QSt w X Q tag sv v acc wr) (hb : Below wr.heap.size wr w') : QSt w X Q tag sv v acc w' :=
  ⟨h.bel.trans (hb.mono h.bel.size), h.base, h.qx, stay h.b0 hb, stay h.b1 hb, stay h.bq hb, h.own.below hb⟩
theorem QSt.app {w wr : World} {X Q tag : Nat} {sv v : Value} {acc : PLs} (h : QSt w X Q tag sv v acc wr) {e : Int × Pt} (he : LsOk e) (hn : acc.length < 1000000) :
    ∃ a' c' wd, (Builtin.append_ #[59, 59] 59 #[v, .slice (some ⟨wr.heap.size, 0, none⟩) 1 1]).run Try.prog (wr.alloc (.cells #[.int .i64 e.1, .string e.2.1, .int .u32 e.2.2] 98)) = .ok (.slice a' (acc.length + 1) c') wd ∧
      wd.heap[Q]? = some (.cells #[.int .u16 tag, v] 61 (0, 0)) ∧ QSt w X Q tag sv (.slice a' (acc.length + 1) c') (acc ++ [e]) (wd.setCell ⟨Q, 1, none⟩ (.slice a' (acc.length + 1) c')) := by
  have hq := lt_of h.bq
  have hqx := h.qx
  obtain ⟨a2, c2, w2, hrun, hown, hb, hk⟩ := h.own.app he hn (by omega)
  have hne : ∀ j, j < Q + 1 → some j ≠ v.ownBlock := fun j hj e => by have := (h.own.row.lt j e.symm).1; omega
  have keep : ∀ j, j < Q + 1 → w2.heap[j]? = wr.heap[j]? := fun j hj => hk j (by omega) (hne j hj)
  have k3 := (keep Q (by omega)).trans h.bq
  refine ⟨a2, c2, w2, hrun, k3, ?_⟩
  have hbe := h.base
  refine ⟨?_, h.base, h.qx, stay_set ((keep X (by omega)).trans h.b0) (by omega), stay_set ((keep (X + 1) (by omega)).trans h.b1) (by omega), heap_setCell_at k3, ?_⟩
  · exact (h.bel.trans ((hb.mono (by omega) : Below w.heap.size wr w2))).setCell (p := ⟨Q, 1, none⟩) (by show w.heap.size ≤ Q; omega) _
  · refine ⟨ownsRow_other hown.row _ _ (fun e => ?_), hown.ok⟩
    have := (hown.row.lt _ e).1
    dsimp only at this
    omega
set_option maxRecDepth 100000 in
set_option maxHeartbeats 4000000 in
theorem rrelease_any (tag : Nat) (sv : Value) (L : PLs) (key : Int) (w : World) (hsv : SlAt rpLs w sv L) (hL : L.length < 1000) : Calls Try.prog 19 #[.agg #[.int .u16 tag, sv], .int .i64 key] w (RsP tag sv (rrelE L key) w) := by
  have HSL := Lib.hid hsv
  have HLL := Lib.hid hL
  obtain ⟨a, c, rfl, hl1, hl2⟩ := hsv.shape
  rw [maxLen_eq] at hl2
  obtain ⟨n, hn⟩ : ∃ n, n = L.length := ⟨_, rfl⟩
  rw [← hn] at hl1 HSL HLL ⊢
  have HN := Lib.hid hn
  clear hn hsv hL
  go_enter Try.func19, Try.ntmps19
  go_upto_region 1 with fail
  obtain ⟨X, hX⟩ : ∃ q, q = w.heap.size := ⟨_, rfl⟩
  have hnews := new2 w X hX (.cells #[.int .u16 tag, .slice a n c] 61) (.cells #[.int .u16 0, .slice none 0 0] 61)
  rw [← hX]
  generalize ((w.alloc (.cells #[.int .u16 tag, .slice a n c] 61)).alloc (.cells #[.int .u16 0, .slice none 0 0] 61)) = w0 at *
  obtain ⟨hz0, hz1, hal⟩ := hnews
  have HXW := Lib.hid hX
  have HZ0 := Lib.hid hz0
  have HZ1 := Lib.hid hz1
  have HB := Lib.hid hal
  have c0 : w0.cell? ⟨X, 0, none⟩ = some (.int .u16 tag) := cell_at hz0
  have c1 : w0.cell? ⟨X, 1, none⟩ = some (.slice a n c) := cell_at hz0
  clear hz0 hz1 hal hX
  go_wp2_with fail
  refine (rfind_any tag _ L key w0 (HSL.out.below HB.out)).mono ?_
  rintro e w1 ⟨rfl, hxc⟩
  have HB := Lib.hid (HB.out.trans (hxc.mono HB.out.size))
  have HZ0 := Lib.hid (stay HZ0.out hxc)
  have HZ1 := Lib.hid (stay HZ1.out hxc)
  replace c0 := below_cells hxc _ _ c0
  replace c1 := below_cells hxc _ _ c1
  clear hxc
  cases hf : findI L key with
  | none =>
    have HR := Lib.hid (show rrelE L key = (L, 8) by unfold rrelE; rw [hf])
    clear hf
    unfold idxV
    dsimp only
    have HTC := Lib.hid (two_cells HZ1.out (.int .u16 tag) (.slice a n c))
    have x0 : w1.cell? ⟨X + 1, 0, none⟩ = some (.int .u16 0) := cell_at HZ1.out
    have x1 : w1.cell? ⟨X + 1, 1, none⟩ = some (.slice none 0 0) := cell_at HZ1.out
    have f0 : w1.frozen? ⟨X + 1, 0, none⟩ = false := free_at HZ1.out
    have f1 : w1.frozen? ⟨X + 1, 1, none⟩ = false := free_at HZ1.out
    go_wp2_with fail
    clear x0 x1 f0 f1 c0 c1
    have hz := HTC.out.1
    have hbf := HB.out.trans (HTC.out.2.2 w.heap.size (by have := HXW.out; omega))
    generalize (w1.setCell ⟨X + 1, 0, none⟩ (.int .u16 tag)).setCell ⟨X + 1, 1, none⟩ (.slice a n c) = wf at *
    have r0 : wf.cell? ⟨X + 1, 0, none⟩ = some (.int .u16 tag) := cell_at hz
    have r1 : wf.cell? ⟨X + 1, 1, none⟩ = some (.slice a n c) := cell_at hz
    have hfin := HSL.out.below hbf
    refine bodyPost_ret (v := .tuple #[.agg #[.int .u16 tag, .slice a n c], .int .i64 8]) (by simp [results, Try.results19, go_sem, r0, r1]) rfl ?_
    rw [HR.out]
    exact ⟨_, rfl, hfin, hbf, .inl rfl⟩
  | some ix =>
    have HR := Lib.hid (show rrelE L key = (L.eraseIdx ix, 0) by unfold rrelE; rw [hf])
    clear hf
    unfold idxV
    dsimp only
    go_upto_region 5 with fail
    have hz := heap_alloc_new w1 (.cells #[.int .u16 tag, .slice none 0 0] 61)
    have hal : Below w1.heap.size w1 (w1.alloc (.cells #[.int .u16 tag, .slice none 0 0] 61)) := (Below.refl _ _).alloc (Nat.le_refl _) _
    obtain ⟨Q, hQ⟩ : ∃ q, q = w1.heap.size := ⟨_, rfl⟩
    rw [← hQ] at hz ⊢
    generalize w1.alloc (.cells #[.int .u16 tag, .slice none 0 0] 61) = w2 at *
    have HST := Lib.hid (show QSt w X Q tag (.slice a n c) (.slice none 0 0) [] w2 from ⟨HB.out.trans (hal.mono HB.out.size), HXW.out, by rw [hQ]; exact lt_of HZ1.out, stay HZ0.out hal, stay HZ1.out hal, hz, lsOwn_nil _ _⟩)
    clear hz hal hQ HZ0 HZ1 HB c0 c1
    go_wp2_with fail
    go_loopg [8] n (fun g i wr => ∃ (k : Nat) (v0 : Value) (acc : PLs), g = n - k ∧ k ≤ n ∧ i = .int .i64 k ∧ acc = (L.take k).eraseIdx ix ∧ QSt w X Q tag (.slice a n c) v0 acc wr)
    case atStart => exact ⟨0, _, [], rfl, by omega, rfl, by simp, HST.out⟩
    case round =>
      clear HST
      rename World => wo
      obtain ⟨k, v0, acc, hgk, hk, rfl, hacc, hst⟩ := hrel
      have HGK := Lib.hid hgk
      have HACC := Lib.hid hacc
      have HST := Lib.hid hst
      obtain ⟨va, vc, rfl, -, -⟩ := ownsRow_shape hst.own.row
      have hal : acc.length ≤ k := by
        rw [hacc]
        have h1 := List.length_eraseIdx_le (L.take k) ix
        have h2 : (L.take k).length ≤ k := List.length_take_le _ _
        omega
      have HAL := Lib.hid hal
      clear hgk hacc hst hal
      have c1 : wo.cell? ⟨X, 1, none⟩ = some (.slice a n c) := cell_at HST.out.b0
      have y1 : wo.cell? ⟨Q, 1, none⟩ = some (.slice va acc.length vc) := cell_at HST.out.bq
      by_cases hlt : k < n
      · obtain ⟨b, o, e, rfl, he, hok, d0, d1, d2⟩ := (HSL.out.below HST.out.bel).ls hlt
        have HE := Lib.hid he
        have HOK := Lib.hid hok
        clear he hok
        by_cases hki : k = ix
        · subst hki
          have HNX := Lib.hid (HACC.out.trans (erase_eq HE.out).symm)
          go_wp2_with fail
          go_roundg (n - (k + 1))
          case measure => have := HGK.out; omega
          case rel => exact ⟨k + 1, _, acc, rfl, by omega, by go_num, HNX.out, HST.out⟩
        · have HNX := Lib.hid (show acc ++ [e] = (L.take (k + 1)).eraseIdx ix by rw [erase_ne HE.out hki, ← HACC.out])
          have hki2 : ¬ ((k : Int) = (ix : Int)) := by omega
          go_upto_region 9 with fail
          obtain ⟨a3, c3, wd3, hrun3, hk4, hst3⟩ := (HST.out.below (show Below wo.heap.size wo wo.drew from ⟨rfl, rfl, rfl, Nat.le_refl _, fun _ _ => rfl⟩)).app HOK.out (by have := HAL.out; have := HLL.out; omega)
          have c1a : ∀ o', (wo.alloc o').cell? ⟨X, 1, none⟩ = some (.slice (some ⟨b, o, none⟩) n c) := fun o' => cell_over c1 o'
          have y1a : ∀ o', (wo.alloc o').cell? ⟨Q, 1, none⟩ = some (.slice va acc.length vc) := fun o' => cell_over y1 o'
          have y1d : wd3.cell? ⟨Q, 1, none⟩ = some (.slice va acc.length vc) := cell_at hk4
          have g1d : wd3.frozen? ⟨Q, 1, none⟩ = false := free_at hk4
          have HR3 := Lib.hid (show (Builtin.append_ #[59, 59] 59 #[.slice va acc.length vc, .slice (some ⟨wo.heap.size, 0, none⟩) 1 1]).run Try.prog ((wo.alloc (.cells #[.int .i64 e.1, .string e.2.1, .int .u32 e.2.2] 98)).drew) = .ok (.slice a3 (acc.length + 1) c3) wd3 from hrun3)
          have HST3 := Lib.hid hst3
          clear hrun3 hk4 hst3 HST hki hki2
          go_region_law (refine step_append_run rfl (.tmp 29) (.tmp 35) 59 59 rfl rfl rfl HR3.out ?_)
          all_goals
            go_wp2_with fail
            go_roundg (n - (k + 1))
            case measure => have := HGK.out; omega
            case rel => exact ⟨k + 1, _, _, rfl, by omega, by go_num, HNX.out, HST3.out⟩
      · obtain rfl : k = n := by omega
        have HE2 := Lib.hid (show acc = L.eraseIdx ix by rw [HACC.out, HN.out, List.take_length])
        go_upto_region 10 with fail
        have y0 : wo.cell? ⟨Q, 0, none⟩ = some (.int .u16 tag) := cell_at HST.out.bq
        have x0 : wo.cell? ⟨X + 1, 0, none⟩ = some (.int .u16 0) := cell_at HST.out.b1
        have x1 : wo.cell? ⟨X + 1, 1, none⟩ = some (.slice none 0 0) := cell_at HST.out.b1
        have f0 : wo.frozen? ⟨X + 1, 0, none⟩ = false := free_at HST.out.b1
        have f1 : wo.frozen? ⟨X + 1, 1, none⟩ = false := free_at HST.out.b1
        have HTC := Lib.hid (two_cells HST.out.b1 (.int .u16 tag) (.slice va acc.length vc))
        have HOWN := Lib.hid HST.out.own
        have HB2 := Lib.hid HST.out.bel
        have hqx := HST.out.qx
        clear HST
        go_wp2_with fail
        clear y0 y1 x0 x1 f0 f1 c1
        have hz := HTC.out.1
        have hrow := ownsRow_other (ownsRow_other HOWN.out.row ⟨X + 1, 0, none⟩ (.int .u16 tag) (fun e => by have := (HOWN.out.row.lt _ e).1; dsimp only at this; omega)) ⟨X + 1, 1, none⟩ (.slice va acc.length vc) (fun e => by have := (HOWN.out.row.lt _ e).1; dsimp only at this; omega)
        have hbf := HB2.out.trans (HTC.out.2.2 w.heap.size (by have := HXW.out; omega))
        generalize (wo.setCell ⟨X + 1, 0, none⟩ (.int .u16 tag)).setCell ⟨X + 1, 1, none⟩ (.slice va acc.length vc) = wf at *
        have r0 : wf.cell? ⟨X + 1, 0, none⟩ = some (.int .u16 tag) := cell_at hz
        have r1 : wf.cell? ⟨X + 1, 1, none⟩ = some (.slice va acc.length vc) := cell_at hz
        have hfin : SlAt rpLs wf (.slice va acc.length vc) (L.eraseIdx ix) := HE2.out ▸ (⟨hrow, HOWN.out.ok⟩ : LsOwn _ wf (.slice va acc.length vc) acc).sl
        refine bodyPost_ret (v := .tuple #[.agg #[.int .u16 tag, .slice va acc.length vc], .int .i64 0]) (by simp [results, Try.results19, go_sem, r0, r1]) rfl ?_
        rw [HR.out]
        exact ⟨_, rfl, hfin, hbf, .inr fun B hB => by have := (hrow.lt B hB).1; have := HXW.out; omega⟩
end Go.Proofs.Ytelindgnkpfkiaa
