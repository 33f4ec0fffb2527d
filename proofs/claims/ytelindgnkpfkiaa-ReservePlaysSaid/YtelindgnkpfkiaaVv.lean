/-
  The document's reserves: with a lease more, without one. Conditions: the leases lie in memory.
-/
import Derived.Test.YtelindgnkpfkiaaVu
import Derived.Test.YtelindgnkpfkiaaTxo
import Derived.Test.YtelindgnkpfkiaaCut
namespace Go.Proofs.Ytelindgnkpfkiaa
open Go.RowKit Go.BigFrame Go.Maps
set_option linter.unusedVariables false
set_option linter.unusedSimpArgs false

def lsCells (l : PLs) : List Value := l.flatMap lsRow
theorem lsRow_len (e : Int × Pt) : (lsRow e).length = 3 := rfl
structure LsOwn (base : Nat) (w : World) (v : Value) (L : PLs) : Prop where
  row : w.ownsRow base 98 3 v L.length (lsCells L)
  ok : ∀ e ∈ L, LsOk e
theorem LsOwn.sl {base : Nat} {w : World} {v : Value} {l : PLs} (h : LsOwn base w v l) : SlAt rpLs w v l := by
  obtain ⟨a, c, e, h1, h2⟩ := ownsRow_shape h.row
  subst e
  refine ⟨a, c, rfl, h1, h2, fun i x hi => ?_⟩
  have hil : i < l.length := (List.getElem?_eq_some_iff.1 hi).1
  obtain ⟨b, rfl, hb, hb2⟩ := ownsRow_some h.row (by omega)
  refine ⟨b, 0, lsRow x, rfl, rfl, fun j u hj => ?_, rfl, h.ok x (List.mem_of_getElem? hi)⟩
  have hj5 : j < 3 := (List.getElem?_eq_some_iff.1 hj).1
  have := h.row.cells (g := b) rfl (i * 3 + j) u (by rw [show lsCells l = l.flatMap lsRow from rfl, flat_at lsRow 3 lsRow_len l i x hi j hj5]; exact hj)
  rw [Addr.add_lit] at this
  simpa [rpLs] using this
theorem LsOwn.below {base : Nat} {w w' : World} {v : Value} {l : PLs} (h : LsOwn base w v l) (hb : Below w.heap.size w w') : LsOwn base w' v l := ⟨ownsRow_below h.row hb, h.ok⟩
theorem LsOwn.base {base base' : Nat} {w : World} {v : Value} {l : PLs} (h : LsOwn base w v l) (hb : base' ≤ base) : LsOwn base' w v l := ⟨ownsRow_base h.row hb, h.ok⟩
theorem lsOwn_nil (base : Nat) (w : World) : LsOwn base w (.slice none 0 0) [] := ⟨World.ownsRow_nil _ _ _ _, fun x hx => by simp at hx⟩
theorem info_ls : (Try.prog.info? 98).map (fun i => (i.zero, i.size, i.bytes)) = some (some (.agg #[.int .i64 0, .string ByteArray.empty, .int .u32 0]), 3, 32) := by kernel_rfl
/-- A lease more at the end of a list of the call's own. -/
theorem LsOwn.app {base : Nat} {w : World} {v : Value} {l : PLs} (h : LsOwn base w v l) {e : Int × Pt} (he : LsOk e) (hn : l.length < 1000000) (hb : base ≤ w.heap.size) :
    ∃ a' c' w', (Builtin.append_ #[59, 59] 59 #[v, .slice (some ⟨w.heap.size, 0, none⟩) 1 1]).run Try.prog (w.alloc (.cells #[.int .i64 e.1, .string e.2.1, .int .u32 e.2.2] 98)) = .ok (.slice a' (l.length + 1) c') w' ∧
      LsOwn base w' (.slice a' (l.length + 1) c') (l ++ [e]) ∧ Below base w w' ∧ ∀ k, k < w.heap.size → some k ≠ v.ownBlock → w'.heap[k]? = w.heap[k]? := by
  obtain ⟨i0, hi, hz0, hz1, hz2⟩ := info_parts info_ls
  obtain ⟨a2, c2, w2, hrun, hown2, hb2, hg2, hv2⟩ := append_one (P := Try.prog) Try.underlying59 hi hz0 hz1 hz2 rfl h.row #[.int .i64 e.1, .string e.2.1, .int .u32 e.2.2] rfl (by simp [Value.oneCell']) (by rw [maxLen_eq]; omega) (by omega) hb (ty := 59)
  refine ⟨a2, c2, w2, hrun, ⟨?_, fun y hy => ?_⟩, hb2, fun k hk hne => ?_⟩
  · have e1 : lsCells (l ++ [e]) = lsCells l ++ [.int .i64 e.1, .string e.2.1, .int .u32 e.2.2] := by simp [lsCells, lsRow]
    rw [e1, List.length_append]
    exact hown2
  · rcases List.mem_append.1 hy with hy | hy
    · exact h.ok y hy
    · rw [List.mem_singleton.1 hy]; exact he
  · have h1 := hg2.block k (by simp; omega) hne
    rw [h1]
    exact Below.heap_alloc w _ k hk
/-- A box whose second field is set: a state of the walks. -/
structure WSt (w : World) (X tag : Nat) (sv pv : Value) (id : ByteArray) (idx : Nat) (v : Value) (acc : PLs) (wr : World) : Prop where
  bel : Below w.heap.size w wr
  base : X = w.heap.size
  b0 : wr.heap[X]? = some (.cells #[.int .u16 tag, sv] 61 (0, 0))
  b1 : wr.heap[X + 1]? = some (.cells #[.string id, .int .u32 idx] 35 (0, 0))
  b2 : wr.heap[X + 1 + 1]? = some (.cells #[.int .u16 0, .slice none 0 0] 61 (0, 0))
  b3 : wr.heap[X + 1 + 1 + 1]? = some (.cells #[.int .u16 tag, v] 61 (0, 0))
  own : LsOwn (X + 4) wr v acc
theorem WSt.size {w wr : World} {X tag : Nat} {sv pv v : Value} {id : ByteArray} {idx : Nat} {acc : PLs} (h : WSt w X tag sv pv id idx v acc wr) : X + 4 ≤ wr.heap.size := by have := lt_of h.b3; omega
theorem WSt.app {w wr : World} {X tag : Nat} {sv pv v : Value} {id : ByteArray} {idx : Nat} {acc : PLs} (h : WSt w X tag sv pv id idx v acc wr) {e : Int × Pt} (he : LsOk e) (hn : acc.length < 1000000) :
    ∃ a' c' wd, (Builtin.append_ #[59, 59] 59 #[v, .slice (some ⟨wr.heap.size, 0, none⟩) 1 1]).run Try.prog (wr.alloc (.cells #[.int .i64 e.1, .string e.2.1, .int .u32 e.2.2] 98)) = .ok (.slice a' (acc.length + 1) c') wd ∧
      wd.heap[X + 1 + 1 + 1]? = some (.cells #[.int .u16 tag, v] 61 (0, 0)) ∧ WSt w X tag sv pv id idx (.slice a' (acc.length + 1) c') (acc ++ [e]) (wd.setCell ⟨X + 1 + 1 + 1, 1, none⟩ (.slice a' (acc.length + 1) c')) := by
  obtain ⟨a2, c2, w2, hrun, hown, hb, hk⟩ := h.own.app he hn h.size
  have hne : ∀ j, j < X + 4 → some j ≠ v.ownBlock := fun j hj e => by have := (h.own.row.lt j e.symm).1; omega
  have hs := h.size
  have keep : ∀ j, j < X + 4 → w2.heap[j]? = wr.heap[j]? := fun j hj => hk j (by omega) (hne j hj)
  have k3 := (keep (X + 1 + 1 + 1) (by omega)).trans h.b3
  refine ⟨a2, c2, w2, hrun, k3, ?_⟩
  have hbe := h.base
  refine ⟨?_, h.base, stay_set ((keep X (by omega)).trans h.b0) (by omega), stay_set ((keep (X + 1) (by omega)).trans h.b1) (by omega), stay_set ((keep (X + 1 + 1) (by omega)).trans h.b2) (by omega), heap_setCell_at k3, ?_⟩
  · exact (h.bel.trans ((hb.mono (by omega) : Below w.heap.size wr w2))).setCell (p := ⟨X + 1 + 1 + 1, 1, none⟩) (by show w.heap.size ≤ X + 1 + 1 + 1; omega) _
  · refine ⟨ownsRow_other hown.row _ _ (fun e => ?_), hown.ok⟩
    have := (hown.row.lt _ e).1
    dsimp only at this
    omega
theorem WSt.below {w wr w' : World} {X tag : Nat} {sv pv v : Value} {id : ByteArray} {idx : Nat} {acc : PLs} (h : WSt w X tag sv pv id idx v acc wr) (hb : Below wr.heap.size wr w') : WSt w X tag sv pv id idx v acc w' :=
  ⟨h.bel.trans (hb.mono h.bel.size), h.base, stay h.b0 hb, stay h.b1 hb, stay h.b2 hb, stay h.b3 hb, h.own.below hb⟩
theorem wst_start (w : World) (X tag : Nat) (sv : Value) (id : ByteArray) (idx : Nat) (hX : X = w.heap.size) : WSt w X tag sv sv id idx (.slice none 0 0) [] ((((w.alloc (.cells #[.int .u16 tag, sv] 61)).alloc (.cells #[.string id, .int .u32 idx] 35)).alloc (.cells #[.int .u16 0, .slice none 0 0] 61)).alloc (.cells #[.int .u16 tag, .slice none 0 0] 61)) := by
  subst hX
  have h1 := heap_alloc_new w (.cells #[.int .u16 tag, sv] 61)
  have b1 := (Below.refl w.heap.size w).alloc (Nat.le_refl _) (.cells #[.int .u16 tag, sv] 61)
  have s1 : (w.alloc (.cells #[.int .u16 tag, sv] 61)).heap.size = w.heap.size + 1 := by simp
  generalize w.alloc (.cells #[.int .u16 tag, sv] 61) = w1 at *
  have h2 := heap_alloc_new w1 (.cells #[.string id, .int .u32 idx] 35)
  have b2 := b1.alloc (by omega) (.cells #[.string id, .int .u32 idx] 35)
  have h1 := stay h1 ((Below.refl w1.heap.size w1).alloc (Nat.le_refl _) (.cells #[.string id, .int .u32 idx] 35))
  have s2 : (w1.alloc (.cells #[.string id, .int .u32 idx] 35)).heap.size = w.heap.size + 1 + 1 := by simp [s1]
  rw [s1] at h2
  generalize w1.alloc (.cells #[.string id, .int .u32 idx] 35) = w2 at *
  have h3 := heap_alloc_new w2 (.cells #[.int .u16 0, .slice none 0 0] 61)
  have b3 := b2.alloc (by omega) (.cells #[.int .u16 0, .slice none 0 0] 61)
  have k3 := (Below.refl w2.heap.size w2).alloc (Nat.le_refl _) (.cells #[.int .u16 0, .slice none 0 0] 61)
  have h1 := stay h1 k3
  have h2 := stay h2 k3
  have s3 : (w2.alloc (.cells #[.int .u16 0, .slice none 0 0] 61)).heap.size = w.heap.size + 1 + 1 + 1 := by simp [s2]
  rw [s2] at h3
  generalize w2.alloc (.cells #[.int .u16 0, .slice none 0 0] 61) = w3 at *
  have h4 := heap_alloc_new w3 (.cells #[.int .u16 tag, .slice none 0 0] 61)
  have b4 := b3.alloc (by omega) (.cells #[.int .u16 tag, .slice none 0 0] 61)
  have k4 := (Below.refl w3.heap.size w3).alloc (Nat.le_refl _) (.cells #[.int .u16 tag, .slice none 0 0] 61)
  rw [s3] at h4
  exact ⟨b4, rfl, stay h1 k4, stay h2 k4, stay h3 k4, h4, lsOwn_nil _ _⟩
def WithP (tag : Nat) (L : PLs) (w : World) (e : Ending) (w' : World) : Prop := ∃ v, e = .returned (.agg #[.int .u16 tag, v]) ∧ LsOwn w.heap.size w' v L ∧ Below w.heap.size w w'
set_option maxRecDepth 100000 in
set_option maxHeartbeats 4000000 in
theorem rwith_any (tag : Nat) (sv : Value) (L : PLs) (key : Int) (p : Pt) (w : World) (hsv : SlAt rpLs w sv L) (hk : LsOk (key, p)) (hL : L.length < 1000) : Calls Try.prog 34 #[.agg #[.int .u16 tag, sv], .int .i64 key, .agg #[.string p.1, .int .u32 p.2]] w (WithP tag (insL key p L) w) := by
  have HSL := Lib.hid hsv
  have HKO := Lib.hid hk
  have HLL := Lib.hid hL
  obtain ⟨a, c, rfl, hl1, hl2⟩ := hsv.shape
  rw [maxLen_eq] at hl2
  obtain ⟨n, hn⟩ : ∃ n, n = L.length := ⟨_, rfl⟩
  rw [← hn] at hl1 HSL HLL ⊢
  have HN := Lib.hid hn
  clear hn hsv hk hL
  go_enter Try.func34, Try.ntmps34
  go_upto_region 2 with fail
  obtain ⟨X, hX⟩ : ∃ q, q = w.heap.size := ⟨_, rfl⟩
  have hst := wst_start w X tag (.slice a n c) p.1 p.2 hX
  rw [← hX]
  generalize (((w.alloc (.cells #[.int .u16 tag, .slice a n c] 61)).alloc (.cells #[.string p.1, .int .u32 p.2] 35)).alloc (.cells #[.int .u16 0, .slice none 0 0] 61)).alloc (.cells #[.int .u16 tag, .slice none 0 0] 61) = w0 at *
  have HST := Lib.hid hst
  clear hst hX
  have c1 : w0.cell? ⟨X, 1, none⟩ = some (.slice a n c) := cell_at HST.out.b0
  go_wp2_with fail
  go_loopg [8, 9] n (fun g d i wr => ∃ (k : Nat) (v0 : Value) (dn : Bool) (acc : PLs), g = n - k ∧ k ≤ n ∧ i = .int .i64 k ∧ d = .bool dn ∧ (acc, dn) = (L.take k).foldl (wStep key p) ([], false) ∧ WSt w X tag (.slice a n c) (.slice a n c) p.1 p.2 v0 acc wr)
  case atStart => exact ⟨0, _, false, [], rfl, by omega, rfl, rfl, rfl, HST.out⟩
  case round =>
    clear HST c1
    rename World => wo
    obtain ⟨k, v0, dn, acc, hgk, hk, rfl, rfl, hacc, hst⟩ := hrel
    have HGK := Lib.hid hgk
    have HACC := Lib.hid hacc
    have HST := Lib.hid hst
    obtain ⟨va, vc, rfl, -, -⟩ := ownsRow_shape hst.own.row
    have hal : acc.length ≤ k + 1 := by
      have h1 := (w_len key p (L.take k) ([], false)).1
      rw [← hacc] at h1
      have h2 : (L.take k).length ≤ k := List.length_take_le _ _
      simp only [List.length_nil] at h1
      omega
    have HAL := Lib.hid hal
    clear hgk hacc hst hal
    have c1 : wo.cell? ⟨X, 1, none⟩ = some (.slice a n c) := cell_at HST.out.b0
    have p0 : wo.cell? ⟨X + 1, 0, none⟩ = some (.string p.1) := cell_at HST.out.b1
    have p1 : wo.cell? ⟨X + 1, 1, none⟩ = some (.int .u32 p.2) := cell_at HST.out.b1
    have y1 : wo.cell? ⟨X + 1 + 1 + 1, 1, none⟩ = some (.slice va acc.length vc) := cell_at HST.out.b3
    by_cases hlt : k < n
    · obtain ⟨b, o, e, rfl, he, hok, d0, d1, d2⟩ := (HSL.out.below HST.out.bel).ls hlt
      have HE := Lib.hid he
      have HOK := Lib.hid hok
      have HNX := Lib.hid (show (L.take (k + 1)).foldl (wStep key p) ([], false) = wStep key p (acc, dn) e by rw [take_snoc he, List.foldl_append, ← HACC.out]; rfl)
      clear he hok
      by_cases hins : key < e.1 ∧ dn = false
      · obtain ⟨hke, rfl⟩ := hins
        have HW := Lib.hid (HNX.out.trans (show wStep key p (acc, false) e = (acc ++ [(key, p)] ++ [e], true) from if_pos ⟨hke, rfl⟩))
        obtain ⟨v2, c2, wd, hrun, hk3, hst2⟩ := HST.out.app HKO.out (by have := HAL.out; have := HLL.out; omega)
        have y1d : wd.cell? ⟨X + 1 + 1 + 1, 1, none⟩ = some (.slice va acc.length vc) := cell_at hk3
        have g1d : wd.frozen? ⟨X + 1 + 1 + 1, 1, none⟩ = false := free_at hk3
        have HR := Lib.hid hrun
        have HST2 := Lib.hid hst2
        clear hrun hk3 hst2
        go_upto_region 9 with (at_builtin; refine wpList_append_run rfl (.tmp 33) (.tmp 37) 59 59 rfl rfl rfl HR.out ?_)
        generalize wd.setCell ⟨X + 1 + 1 + 1, 1, none⟩ (.slice v2 (acc.length + 1) c2) = w2 at *
        clear y1d g1d y1 c1 p0 p1 HST HR d0 d1 d2
        obtain ⟨b', o', e', hbo, he', -, d0, d1, d2⟩ := (HSL.out.below HST2.out.bel).ls hlt
        obtain ⟨rfl, rfl⟩ : b = b' ∧ o = o' := by simpa using hbo
        rw [HE.out] at he'
        obtain rfl := Option.some.inj he'
        clear hbo he'
        obtain ⟨a3, c3, wd3, hrun3, hk4, hst3⟩ := (HST2.out.below (show Below w2.heap.size w2 w2.drew from ⟨rfl, rfl, rfl, Nat.le_refl _, fun _ _ => rfl⟩)).app HOK.out (by have := HAL.out; have := HLL.out; simp only [List.length_append, List.length_cons, List.length_nil]; omega)
        rw [show (acc ++ [(key, p)]).length = acc.length + 1 from by simp] at hrun3 hst3
        have c1 : w2.cell? ⟨X, 1, none⟩ = some (.slice (some ⟨b, o, none⟩) n c) := cell_at HST2.out.b0
        have c1a : ∀ o', (w2.alloc o').cell? ⟨X, 1, none⟩ = some (.slice (some ⟨b, o, none⟩) n c) := fun o' => cell_over c1 o'
        have y1 : w2.cell? ⟨X + 1 + 1 + 1, 1, none⟩ = some (.slice v2 (acc.length + 1) c2) := cell_at HST2.out.b3
        have y1a : ∀ o', (w2.alloc o').cell? ⟨X + 1 + 1 + 1, 1, none⟩ = some (.slice v2 (acc.length + 1) c2) := fun o' => cell_over y1 o'
        have y1d : wd3.cell? ⟨X + 1 + 1 + 1, 1, none⟩ = some (.slice v2 (acc.length + 1) c2) := cell_at hk4
        have g1d : wd3.frozen? ⟨X + 1 + 1 + 1, 1, none⟩ = false := free_at hk4
        have HR3 := Lib.hid (show (Builtin.append_ #[59, 59] 59 #[.slice v2 (acc.length + 1) c2, .slice (some ⟨w2.heap.size, 0, none⟩) 1 1]).run Try.prog ((w2.alloc (.cells #[.int .i64 e.1, .string e.2.1, .int .u32 e.2.2] 98)).drew) = .ok (.slice a3 (acc.length + 1 + 1) c3) wd3 from hrun3)
        have HST3 := Lib.hid hst3
        clear hrun3 hk4 hst3 HST2
        go_region_law (refine step_append_run rfl (.tmp 41) (.tmp 47) 59 59 rfl rfl rfl HR3.out ?_)
        all_goals
          go_wp2_with fail
          go_roundg (n - (k + 1))
          case measure => have := HGK.out; omega
          case rel => exact ⟨k + 1, _, true, _, rfl, by omega, by go_num, rfl, HW.out.symm, HST3.out⟩
      · have HW := Lib.hid (HNX.out.trans (show wStep key p (acc, dn) e = (acc ++ [e], dn) from if_neg hins))
        by_cases hke : key < e.1
        · have hdn : dn = true := by cases dn; exact absurd ⟨hke, rfl⟩ hins; rfl
          subst hdn
          go_upto_region 9 with fail
          obtain ⟨a3, c3, wd3, hrun3, hk4, hst3⟩ := (HST.out.below (show Below wo.heap.size wo wo.drew from ⟨rfl, rfl, rfl, Nat.le_refl _, fun _ _ => rfl⟩)).app HOK.out (by have := HAL.out; have := HLL.out; omega)
          have c1a : ∀ o', (wo.alloc o').cell? ⟨X, 1, none⟩ = some (.slice (some ⟨b, o, none⟩) n c) := fun o' => cell_over c1 o'
          have y1a : ∀ o', (wo.alloc o').cell? ⟨X + 1 + 1 + 1, 1, none⟩ = some (.slice va acc.length vc) := fun o' => cell_over y1 o'
          have y1d : wd3.cell? ⟨X + 1 + 1 + 1, 1, none⟩ = some (.slice va acc.length vc) := cell_at hk4
          have g1d : wd3.frozen? ⟨X + 1 + 1 + 1, 1, none⟩ = false := free_at hk4
          have HR3 := Lib.hid (show (Builtin.append_ #[59, 59] 59 #[.slice va acc.length vc, .slice (some ⟨wo.heap.size, 0, none⟩) 1 1]).run Try.prog ((wo.alloc (.cells #[.int .i64 e.1, .string e.2.1, .int .u32 e.2.2] 98)).drew) = .ok (.slice a3 (acc.length + 1) c3) wd3 from hrun3)
          have HST3 := Lib.hid hst3
          clear hrun3 hk4 hst3 HST p0 p1
          go_region_law (refine step_append_run rfl (.tmp 41) (.tmp 47) 59 59 rfl rfl rfl HR3.out ?_)
          all_goals
            go_wp2_with fail
            go_roundg (n - (k + 1))
            case measure => have := HGK.out; omega
            case rel => exact ⟨k + 1, _, true, _, rfl, by omega, by go_num, rfl, HW.out.symm, HST3.out⟩
        · go_upto_region 9 with fail
          obtain ⟨a3, c3, wd3, hrun3, hk4, hst3⟩ := (HST.out.below (show Below wo.heap.size wo wo.drew from ⟨rfl, rfl, rfl, Nat.le_refl _, fun _ _ => rfl⟩)).app HOK.out (by have := HAL.out; have := HLL.out; omega)
          have c1a : ∀ o', (wo.alloc o').cell? ⟨X, 1, none⟩ = some (.slice (some ⟨b, o, none⟩) n c) := fun o' => cell_over c1 o'
          have y1a : ∀ o', (wo.alloc o').cell? ⟨X + 1 + 1 + 1, 1, none⟩ = some (.slice va acc.length vc) := fun o' => cell_over y1 o'
          have y1d : wd3.cell? ⟨X + 1 + 1 + 1, 1, none⟩ = some (.slice va acc.length vc) := cell_at hk4
          have g1d : wd3.frozen? ⟨X + 1 + 1 + 1, 1, none⟩ = false := free_at hk4
          have HR3 := Lib.hid (show (Builtin.append_ #[59, 59] 59 #[.slice va acc.length vc, .slice (some ⟨wo.heap.size, 0, none⟩) 1 1]).run Try.prog ((wo.alloc (.cells #[.int .i64 e.1, .string e.2.1, .int .u32 e.2.2] 98)).drew) = .ok (.slice a3 (acc.length + 1) c3) wd3 from hrun3)
          have HST3 := Lib.hid hst3
          clear hrun3 hk4 hst3 HST p0 p1
          go_region_law (refine step_append_run rfl (.tmp 41) (.tmp 47) 59 59 rfl rfl rfl HR3.out ?_)
          all_goals
            go_wp2_with fail
            go_roundg (n - (k + 1))
            case measure => have := HGK.out; omega
            case rel => exact ⟨k + 1, _, dn, _, rfl, by omega, by go_num, rfl, HW.out.symm, HST3.out⟩
    · obtain rfl : k = n := by omega
      have HEND := Lib.hid (show wEnd key p (acc, dn) = insL key p L by
        have h1 := w_ins key p L ([], false)
        rw [HACC.out, HN.out, List.take_length, h1]
        simp)
      cases dn
      · have HE2 := Lib.hid (show acc ++ [(key, p)] = insL key p L from HEND.out)
        obtain ⟨v2, c2, wd, hrun, hk3, hst2⟩ := HST.out.app HKO.out (by have := HAL.out; have := HLL.out; omega)
        have y1d : wd.cell? ⟨X + 1 + 1 + 1, 1, none⟩ = some (.slice va acc.length vc) := cell_at hk3
        have g1d : wd.frozen? ⟨X + 1 + 1 + 1, 1, none⟩ = false := free_at hk3
        have HR := Lib.hid hrun
        have HST2 := Lib.hid hst2
        clear hrun hk3 hst2
        go_upto_region 12 with (at_builtin; refine wpList_append_run rfl (.tmp 53) (.tmp 57) 59 59 rfl rfl rfl HR.out ?_)
        generalize wd.setCell ⟨X + 1 + 1 + 1, 1, none⟩ (.slice v2 (acc.length + 1) c2) = w2 at *
        clear y1d g1d y1 c1 p0 p1 HST HR
        have y0 : w2.cell? ⟨X + 1 + 1 + 1, 0, none⟩ = some (.int .u16 tag) := cell_at HST2.out.b3
        have y1 : w2.cell? ⟨X + 1 + 1 + 1, 1, none⟩ = some (.slice v2 (acc.length + 1) c2) := cell_at HST2.out.b3
        have x0 : w2.cell? ⟨X + 1 + 1, 0, none⟩ = some (.int .u16 0) := cell_at HST2.out.b2
        have x1 : w2.cell? ⟨X + 1 + 1, 1, none⟩ = some (.slice none 0 0) := cell_at HST2.out.b2
        have f0 : w2.frozen? ⟨X + 1 + 1, 0, none⟩ = false := free_at HST2.out.b2
        have f1 : w2.frozen? ⟨X + 1 + 1, 1, none⟩ = false := free_at HST2.out.b2
        have HTC := Lib.hid (two_cells HST2.out.b2 (.int .u16 tag) (.slice v2 (acc.length + 1) c2))
        have HOWN := Lib.hid HST2.out.own
        have HB2 := Lib.hid HST2.out.bel
        have HXW := Lib.hid HST2.out.base
        clear HST2
        go_wp2_with fail
        clear y0 y1 x0 x1 f0 f1
        have hz := HTC.out.1
        have hrow := ownsRow_other (ownsRow_other HOWN.out.row ⟨X + 1 + 1, 0, none⟩ (.int .u16 tag) (fun e => by have := (HOWN.out.row.lt _ e).1; dsimp only at this; omega)) ⟨X + 1 + 1, 1, none⟩ (.slice v2 (acc.length + 1) c2) (fun e => by have := (HOWN.out.row.lt _ e).1; dsimp only at this; omega)
        have hbf := HB2.out.trans (HTC.out.2.2 w.heap.size (by have := HXW.out; omega))
        generalize (w2.setCell ⟨X + 1 + 1, 0, none⟩ (.int .u16 tag)).setCell ⟨X + 1 + 1, 1, none⟩ (.slice v2 (acc.length + 1) c2) = wf at *
        have r0 : wf.cell? ⟨X + 1 + 1, 0, none⟩ = some (.int .u16 tag) := cell_at hz
        have r1 : wf.cell? ⟨X + 1 + 1, 1, none⟩ = some (.slice v2 (acc.length + 1) c2) := cell_at hz
        have hfin : LsOwn w.heap.size wf (.slice v2 (acc.length + 1) c2) (insL key p L) := HE2.out ▸ (⟨ownsRow_base hrow (by have := HXW.out; omega), HOWN.out.ok⟩ : LsOwn w.heap.size wf (.slice v2 (acc.length + 1) c2) (acc ++ [(key, p)]))
        refine bodyPost_ret (v := .agg #[.int .u16 tag, .slice v2 (acc.length + 1) c2]) (by simp [results, Try.results34, go_sem, r0, r1]) rfl ⟨_, rfl, hfin, hbf⟩
      · have HE2 := Lib.hid (show acc = insL key p L from HEND.out)
        go_upto_region 12 with fail
        have y0 : wo.cell? ⟨X + 1 + 1 + 1, 0, none⟩ = some (.int .u16 tag) := cell_at HST.out.b3
        have x0 : wo.cell? ⟨X + 1 + 1, 0, none⟩ = some (.int .u16 0) := cell_at HST.out.b2
        have x1 : wo.cell? ⟨X + 1 + 1, 1, none⟩ = some (.slice none 0 0) := cell_at HST.out.b2
        have f0 : wo.frozen? ⟨X + 1 + 1, 0, none⟩ = false := free_at HST.out.b2
        have f1 : wo.frozen? ⟨X + 1 + 1, 1, none⟩ = false := free_at HST.out.b2
        have HTC := Lib.hid (two_cells HST.out.b2 (.int .u16 tag) (.slice va acc.length vc))
        have HOWN := Lib.hid HST.out.own
        have HB2 := Lib.hid HST.out.bel
        have HXW := Lib.hid HST.out.base
        clear HST
        go_wp2_with fail
        clear y0 y1 x0 x1 f0 f1 c1 p0 p1
        have hz := HTC.out.1
        have hrow := ownsRow_other (ownsRow_other HOWN.out.row ⟨X + 1 + 1, 0, none⟩ (.int .u16 tag) (fun e => by have := (HOWN.out.row.lt _ e).1; dsimp only at this; omega)) ⟨X + 1 + 1, 1, none⟩ (.slice va acc.length vc) (fun e => by have := (HOWN.out.row.lt _ e).1; dsimp only at this; omega)
        have hbf := HB2.out.trans (HTC.out.2.2 w.heap.size (by have := HXW.out; omega))
        generalize (wo.setCell ⟨X + 1 + 1, 0, none⟩ (.int .u16 tag)).setCell ⟨X + 1 + 1, 1, none⟩ (.slice va acc.length vc) = wf at *
        have r0 : wf.cell? ⟨X + 1 + 1, 0, none⟩ = some (.int .u16 tag) := cell_at hz
        have r1 : wf.cell? ⟨X + 1 + 1, 1, none⟩ = some (.slice va acc.length vc) := cell_at hz
        have hfin : LsOwn w.heap.size wf (.slice va acc.length vc) (insL key p L) := HE2.out ▸ (⟨ownsRow_base hrow (by have := HXW.out; omega), HOWN.out.ok⟩ : LsOwn w.heap.size wf (.slice va acc.length vc) acc)
        refine bodyPost_ret (v := .agg #[.int .u16 tag, .slice va acc.length vc]) (by simp [results, Try.results34, go_sem, r0, r1]) rfl ⟨_, rfl, hfin, hbf⟩
end Go.Proofs.Ytelindgnkpfkiaa
