/-
  Entries in rows of the call's own; kedgelaw23.listed. Conditions: no more than a thousand.
-/
import Derived.Test.YtelindgnkpfkiaaVg
import Derived.Test.YtelindgnkpfkiaaCut
namespace Go.Proofs.Ytelindgnkpfkiaa
open Go.RowKit Go.BigFrame Go.Maps
set_option linter.unusedVariables false
set_option linter.unusedSimpArgs false

def enRow (x : PEn) : List Value := [.string x.id, .int .u32 x.idx, .int .i64 x.val, .string x.script, .int .i64 x.ht]
def ensCells (l : List PEn) : List Value := l.flatMap enRow
theorem enRow_len (x : PEn) : (enRow x).length = 5 := rfl
theorem ensCells_len (l : List PEn) : (ensCells l).length = l.length * 5 := flat_len enRow 5 enRow_len l
structure EnOwn (t : TypeId) (base : Nat) (w : World) (v : Value) (l : List PEn) : Prop where
  row : w.ownsRow base t 5 v l.length (ensCells l)
  ok : ∀ x ∈ l, x.Ok
theorem EnOwn.sl {t : TypeId} {base : Nat} {w : World} {v : Value} {l : List PEn} (h : EnOwn t base w v l) : SlAt rpEn w v l := by
  obtain ⟨a, c, e, h1, h2⟩ := ownsRow_shape h.row
  subst e
  refine ⟨a, c, rfl, h1, h2, fun i x hi => ?_⟩
  have hil : i < l.length := (List.getElem?_eq_some_iff.1 hi).1
  obtain ⟨b, rfl, hb, hb2⟩ := ownsRow_some h.row (by omega)
  refine ⟨b, 0, enRow x, rfl, rfl, fun j u hj => ?_, rfl, h.ok x (List.mem_of_getElem? hi)⟩
  have hj5 : j < 5 := (List.getElem?_eq_some_iff.1 hj).1
  have := h.row.cells (g := b) rfl (i * 5 + j) u (by rw [show ensCells l = l.flatMap enRow from rfl, flat_at enRow 5 enRow_len l i x hi j hj5]; exact hj)
  rw [Addr.add_lit] at this
  simpa [rpEn] using this
theorem EnOwn.below {t : TypeId} {base : Nat} {w w' : World} {v : Value} {l : List PEn} (h : EnOwn t base w v l) (hb : Below w.heap.size w w') : EnOwn t base w' v l := ⟨ownsRow_below h.row hb, h.ok⟩
theorem enOwn_nil (t : TypeId) (base : Nat) (w : World) : EnOwn t base w (.slice none 0 0) [] := ⟨World.ownsRow_nil _ _ _ _, fun x hx => by simp at hx⟩
theorem info_en : (Try.prog.info? 41).map (fun i => (i.zero, i.size, i.bytes)) = some (some (.agg #[.string ByteArray.empty, .int .u32 0, .int .i64 0, .string ByteArray.empty, .int .i64 0]), 5, 56) := by kernel_rfl
theorem info_ren : (Try.prog.info? 63).map (fun i => (i.zero, i.size, i.bytes)) = some (some (.agg #[.string ByteArray.empty, .int .u32 0, .int .i64 0, .string ByteArray.empty, .int .i64 0]), 5, 56) := by kernel_rfl
def ListIs (l : List PEn) (w : World) (e : Ending) (w' : World) : Prop := ∃ v, e = .returned v ∧ EnOwn 41 w.heap.size w' v l ∧ Below w.heap.size w w'
set_option maxRecDepth 100000 in
set_option maxHeartbeats 2000000 in
theorem listed_any (sl : Value) (l : List PEn) (w : World) (hsl : SlAt rpEn w sl l) (hlen : l.length ≤ 1000) : Calls Try.prog 8 #[sl] w (ListIs l w) := by
  have HSL := Lib.hid hsl
  obtain ⟨a, c, rfl, hl1, hl2⟩ := hsl.shape
  rw [maxLen_eq] at hl2
  obtain ⟨n, hn⟩ : ∃ n, n = l.length := ⟨_, rfl⟩
  rw [← hn] at hl1 HSL hlen ⊢
  have HN := Lib.hid hn
  have HLEN := Lib.hid hlen
  clear hn hsl hlen
  go_enter Try.func8, Try.ntmps8
  go_wp2_with fail
  go_loopg [3, 8] n (fun g v i wr => ∃ (k : Nat) (v0 : Value), v = v0 ∧ g = n - k ∧ k ≤ n ∧ i = .int .i64 k ∧ Below w.heap.size w wr ∧ EnOwn 41 w.heap.size wr v0 (l.take k))
  case atStart => exact ⟨0, _, rfl, rfl, by omega, rfl, Below.refl _ _, enOwn_nil _ _ _⟩
  case round =>
    rename World => wo
    obtain ⟨k, v0, hv0, hgk, hk, rfl, hb, hown⟩ := hrel
    obtain rfl := hv0.symm
    have HGK := Lib.hid hgk
    have HB := Lib.hid hb
    have HOWN := Lib.hid hown
    clear hgk hb hown
    by_cases hlt : k < n
    · obtain ⟨sb, so, x, rfl, hx, hxo, d0, d1, d2, d3, d4⟩ := (HSL.out.below HB.out).en hlt
      have HX := Lib.hid hx
      have HXO := Lib.hid hxo
      clear hx hxo
      go_upto_region 5 with fail
      have hz := heap_alloc_new wo (.cells #[.string x.id, .int .u32 x.idx, .int .i64 x.val, .string x.script, .int .i64 x.ht] 63)
      have hal : Below wo.heap.size wo (wo.alloc (.cells #[.string x.id, .int .u32 x.idx, .int .i64 x.val, .string x.script, .int .i64 x.ht] 63)) := (Below.refl _ _).alloc (Nat.le_refl _) _
      obtain ⟨Y, hY⟩ : ∃ q, q = wo.heap.size := ⟨_, rfl⟩
      rw [← hY] at hz ⊢
      generalize wo.alloc (.cells #[.string x.id, .int .u32 x.idx, .int .i64 x.val, .string x.script, .int .i64 x.ht] 63) = w1 at *
      have HB1 := Lib.hid (HB.out.trans (hal.mono HB.out.size))
      have hown1 := HOWN.out.below hal
      have q0 : w1.cell? ⟨Y, 0, none⟩ = some (.string x.id) := cell_at hz
      have q1 : w1.cell? ⟨Y, 1, none⟩ = some (.int .u32 x.idx) := cell_at hz
      have q2 : w1.cell? ⟨Y, 2, none⟩ = some (.int .i64 x.val) := cell_at hz
      have q3 : w1.cell? ⟨Y, 3, none⟩ = some (.string x.script) := cell_at hz
      have q4 : w1.cell? ⟨Y, 4, none⟩ = some (.int .i64 x.ht) := cell_at hz
      clear hz hal hY d0 d1 d2 d3 d4
      have hlk : (l.take k).length = k := by rw [List.length_take, ← HN.out]; omega
      obtain ⟨i0, hi, hz0, hz1, hz2⟩ := info_parts info_en
      obtain ⟨a2, c2, w2, hrun, hown2, hb2, hg2, hv2⟩ := append_one (P := Try.prog) Try.underlying29 hi hz0 hz1 hz2 rfl hown1.row (enRow x).toArray rfl (by simp [enRow, Value.oneCell']) (by rw [maxLen_eq]; have := HLEN.out; omega) (by have := HLEN.out; omega) (by have := HB1.out.size; omega) (ty := 29)
      have HO2 := Lib.hid (show EnOwn 41 w.heap.size w2 (.slice a2 (k + 1) c2) (l.take (k + 1)) from ⟨by
        have e : ensCells (l.take (k + 1)) = ensCells (l.take k) ++ enRow x := by rw [take_snoc HX.out]; simp [ensCells]
        have e2 : (l.take (k + 1)).length = k + 1 := by rw [List.length_take, ← HN.out]; omega
        rw [e, e2]
        rw [hlk] at hown2
        exact hown2, fun y hy => by
        rw [take_snoc HX.out] at hy
        rcases List.mem_append.1 hy with h | h
        · exact HOWN.out.ok y h
        · obtain rfl := List.mem_singleton.1 h
          exact HXO.out⟩)
      have HB2 := Lib.hid (HB1.out.trans hb2)
      rw [hlk] at hrun
      obtain ⟨av, cv, rfl, -, -⟩ := ownsRow_shape hown1.row
      have HR := Lib.hid hrun
      clear hrun hown2 hb2 hg2 hv2 hi hz0 hz1 hz2 hown1 i0
      go_wp2_with (at_builtin; refine wpList_append_run rfl (.tmp 12) (.tmp 18) 29 29 rfl rfl rfl HR.out ?_)
      go_roundg (n - (k + 1))
      case measure => have := HGK.out; omega
      case rel => exact ⟨k + 1, _, rfl, rfl, by omega, by go_num, HB2.out, HO2.out⟩
    · obtain rfl : k = n := by omega
      have HF := Lib.hid (show ListIs l w (.returned v0) wo from ⟨_, rfl, by have h := HOWN.out; rw [HN.out, List.take_length] at h; exact h, HB.out⟩)
      go_wp2_with fail
      go_ret
      exact HF.out
end Go.Proofs.Ytelindgnkpfkiaa
