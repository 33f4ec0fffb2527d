/-
  ClaimBuilds: the walk. Conditions: the claims lie in memory, the numbers are ones of their kinds.
-/
import Derived.Test.YtmakghcoehkphaaGreatKu
import Derived.Test.YtmakghcoehkphaaGreatKo
import Derived.Test.YtmakghcoehkphaaGreatKj
import Derived.Test.YtmakghcoehkphaaGreatTxQ
import Derived.Test.YtmakghcoehkphaaGreatKx
namespace Go.Proofs.YtmakghcoehkphaaGreat
open Go.RowKit Go.BigFrame
set_option linter.unusedVariables false
set_option linter.unusedSimpArgs false

theorem TxAt.shapeK {w : World} {v : Value} {t : PTx} (h : TxAt w v t) : ∃ i1 i2 o1 o2, v = .agg #[.int .u32 t.ver, .slice i1 t.ins.length i2, .slice o1 t.outs.length o2, .int .u32 t.lock] := by
  obtain ⟨va, vo, rfl, hia, hoa, -, -⟩ := h
  obtain ⟨i1, i2, rfl, -, -⟩ := hia.shape
  obtain ⟨o1, o2, rfl, -, -⟩ := hoa.shape
  exact ⟨_, _, _, _, rfl⟩
theorem two_intK {w : World} {b : Nat} {x y : Int} {t : TypeId} (h : w.heap[b]? = some (.cells #[.int .i64 x, .int .i64 y] t (0, 0))) {k : Nat} (hk : k < 2) (hx : -9223372036854775808 ≤ x ∧ x ≤ 9223372036854775807) (hy : -9223372036854775808 ≤ y ∧ y ≤ 9223372036854775807) :
    ∃ u : Int, (-9223372036854775808 ≤ u ∧ u ≤ 9223372036854775807) ∧ w.cell? ⟨b, k, none⟩ = some (.int .i64 u) := by
  obtain rfl | rfl : k = 0 ∨ k = 1 := by omega
  · exact ⟨x, hx, cell_at h⟩
  · exact ⟨y, hy, cell_at h⟩
theorem two_slK {w : World} {b : Nat} {x y : Value} {t : TypeId} (h : w.heap[b]? = some (.cells #[x, y] t (0, 0))) {k : Nat} (hk : k < 2) (Q : Value → Prop) (hx : Q x) (hy : Q y) : ∃ u : Value, Q u ∧ w.cell? ⟨b, k, none⟩ = some u := by
  obtain rfl | rfl : k = 0 ∨ k = 1 := by omega
  · exact ⟨x, hx, cell_at h⟩
  · exact ⟨y, hy, cell_at h⟩
/-- What lies there all along. -/
structure EV (w : World) (X P : Nat) (rc : Array Value) (sp : ByteArray) (si : Nat) (wr : World) : Prop where
  bel : Below w.heap.size w wr
  x : wr.heap[X]? = some (.cells rc 28 (0, 0))
  p : wr.heap[P]? = some (.cells #[.string sp, .int .u32 si] 25 (0, 0))
theorem EV.below {w wr w' : World} {X P : Nat} {rc : Array Value} {sp : ByteArray} {si : Nat} (h : EV w X P rc sp si wr) (hb : Below wr.heap.size wr w') : EV w X P rc sp si w' := ⟨h.bel.trans (hb.mono h.bel.size), stay h.x hb, stay h.p hb⟩
def nearC (c : PCl) : PCl := ⟨c.id, c.idx, max 0 c.val % 1000000, max 0 c.br % 3, ⟨c.lock.tag, c.lock.delay, c.lock.height % 1000001⟩, c.dead⟩
theorem nearC_ok {c : PCl} (h : c.Ok) : (nearC c).Ok := ⟨h.id, h.idx, by show _ ≤ max 0 c.val % 1000000 ∧ max 0 c.val % 1000000 ≤ _; omega, by show _ ≤ max 0 c.br % 3 ∧ max 0 c.br % 3 ≤ _; omega, ⟨h.lock.tag, h.lock.delay, by show c.lock.height % 1000001 < _; omega⟩, h.dead⟩
set_option maxRecDepth 100000 in
set_option maxHeartbeats 8000000 in
theorem claimBuilds_walk (vl : Value) (l : List PCl) (z : PRw) (w : World) (hv : SlAt rpCl w vl l) (hz : z.Ok) : Calls Tryz.prog 3 #[.agg (rwCells vl z)] w (BIs true w) := by
  have HOK := Lib.hid hz
  have HV := Lib.hid hv
  have hpl := ofQ_len hz
  have hpi := ofI_lt hz
  obtain ⟨sp, hsp⟩ : ∃ s, s = ofQ z := ⟨_, rfl⟩
  obtain ⟨si, hsi⟩ : ∃ s, s = ofI z := ⟨_, rfl⟩
  have HOF := Lib.hid (fun y (h : SlAt rpCl y vl l) => cof_any vl l z 34 y hz h (by decide))
  have HSP := Lib.hid hsp
  have HSI := Lib.hid hsi
  rw [← hsp] at hpl
  rw [← hsi] at hpi
  have HPL := Lib.hid hpl
  obtain ⟨va, vc, rfl, -, -⟩ := hv.shape
  have hlen : (ofL z.odd (l.take 34)).length ≤ 34 := by rw [ofL_len, List.length_take]; omega
  obtain ⟨ll, hll⟩ : ∃ q, q = ofL z.odd (l.take 34) := ⟨_, rfl⟩
  rw [← hll] at hlen
  have HLL := Lib.hid hll
  generalize l.length = n0 at *
  unfold rwCells at HOF ⊢
  clear hsp hsi hz hv hpl hll
  go_enter Tryz.func3, Tryz.ntmps3
  go_upto_region 1 with fail
  have hz := heap_alloc_new w (.cells #[.slice va n0 vc, .string z.pid, .int .u32 z.pidx, .int .i64 z.val, .int .u16 z.tag, .int .i64 z.fee, .bool z.odd] 28)
  have hal : Below w.heap.size w (w.alloc (.cells #[.slice va n0 vc, .string z.pid, .int .u32 z.pidx, .int .i64 z.val, .int .u16 z.tag, .int .i64 z.fee, .bool z.odd] 28)) := (Below.refl _ _).alloc (Nat.le_refl _) _
  obtain ⟨X, hX⟩ : ∃ q, q = w.heap.size := ⟨_, rfl⟩
  rw [← hX] at hz ⊢
  generalize w.alloc (.cells #[.slice va n0 vc, .string z.pid, .int .u32 z.pidx, .int .i64 z.val, .int .u16 z.tag, .int .i64 z.fee, .bool z.odd] 28) = w0 at *
  have HZ0 := Lib.hid hz
  have HB0 := Lib.hid hal
  have hX1 : w.heap.size ≤ X := by omega
  have z0 : w0.cell? ⟨X, 0, none⟩ = some (.slice va n0 vc) := cell_at hz
  have z1 : w0.cell? ⟨X, 1, none⟩ = some (.string z.pid) := cell_at hz
  have z2 : w0.cell? ⟨X, 2, none⟩ = some (.int .u32 z.pidx) := cell_at hz
  have z3 : w0.cell? ⟨X, 3, none⟩ = some (.int .i64 z.val) := cell_at hz
  have z4 : w0.cell? ⟨X, 4, none⟩ = some (.int .u16 z.tag) := cell_at hz
  have z5 : w0.cell? ⟨X, 5, none⟩ = some (.int .i64 z.fee) := cell_at hz
  have z6 : w0.cell? ⟨X, 6, none⟩ = some (.bool z.odd) := cell_at hz
  have HOF := Lib.hid (HOF.out w0 (HV.out.below hal))
  clear hz hal hX
  go_wp2_with fail
  refine HOF.out.mono ?_
  rintro e w1 ⟨v1, rfl, hown, hb⟩
  rw [← HLL.out] at hown
  rw [← HSP.out, ← HSI.out]
  have HB1 := Lib.hid (HB0.out.trans (hb.mono HB0.out.size))
  have HZ0 := Lib.hid (stay HZ0.out hb)
  have HOWN := Lib.hid hown
  clear hb hown HB0 HOF z0 z1 z2 z3 z4 z5 z6
  obtain ⟨a1, c1, hv1, -, -⟩ := ownsRow_shape HOWN.out.row
  subst hv1
  obtain ⟨n1, hn1⟩ : ∃ q, q = ll.length := ⟨_, rfl⟩
  rw [← hn1] at HOWN hlen ⊢
  have HN1 := Lib.hid hn1
  clear hn1
  go_upto_region 2 with fail
  have hz := heap_alloc_new w1 (.cells #[.string sp, .int .u32 si] 25)
  have hal : Below w1.heap.size w1 (w1.alloc (.cells #[.string sp, .int .u32 si] 25)) := (Below.refl _ _).alloc (Nat.le_refl _) _
  obtain ⟨P, hP⟩ : ∃ q, q = w1.heap.size := ⟨_, rfl⟩
  rw [← hP] at hz ⊢
  generalize w1.alloc (.cells #[.string sp, .int .u32 si] 25) = w2 at *
  have HEV := Lib.hid (show EV w X P #[.slice va n0 vc, .string z.pid, .int .u32 z.pidx, .int .i64 z.val, .int .u16 z.tag, .int .i64 z.fee, .bool z.odd] sp si w2 from ⟨HB1.out.trans (hal.mono HB1.out.size), stay HZ0.out hal, hz⟩)
  have HS1 := Lib.hid (HOWN.out.sl.below hal)
  clear hz hal hP HB1 HZ0
  go_wp2_with fail
  go_loopg [5, 26] n1 (fun g r i wr => ∃ (k : Nat) (r0 : Value), r = r0 ∧ g = n1 - k ∧ k ≤ n1 ∧ i = .int .i64 k ∧ Below w2.heap.size w2 wr ∧ ClsOwn w2.heap.size wr r0 ((ll.take k).map nearC))
  case atStart => exact ⟨0, _, rfl, rfl, by omega, rfl, Below.refl _ _, clsOwn_nil _ _⟩
  case round =>
    rename World => wo
    obtain ⟨k, r0, hr0, hgk, hk, rfl, hb, hown⟩ := hrel
    obtain rfl := hr0.symm
    have HGK := Lib.hid hgk
    have HB := Lib.hid hb
    have HOW := Lib.hid hown
    clear hgk hb hown
    by_cases hlt : k < n1
    · obtain ⟨b, o, x, rfl, hx, hok, hcl⟩ := (HS1.out.below HB.out).cl hlt
      obtain ⟨d0, d1, d2, d3, d4, d5, d6, d7⟩ := hcl
      have HXO := Lib.hid (nearC_ok hok)
      have HTK := Lib.hid (show (ll.take (k + 1)).map nearC = (ll.take k).map nearC ++ [nearC x] by rw [take_snoc hx]; simp)
      have hlk : ((ll.take k).map nearC).length = k := by rw [List.length_map, List.length_take, ← HN1.out]; omega
      clear hx hok
      go_upto_region 6 with fail
      have hz := heap_alloc_new wo (.cells #[.string x.id, .int .u32 x.idx, .int .i64 x.val, .int .i64 x.br, .int .u16 x.lock.tag, .int .u16 x.lock.delay, .int .u32 x.lock.height, .int .i64 x.dead] 34)
      have hal : Below wo.heap.size wo (wo.alloc (.cells #[.string x.id, .int .u32 x.idx, .int .i64 x.val, .int .i64 x.br, .int .u16 x.lock.tag, .int .u16 x.lock.delay, .int .u32 x.lock.height, .int .i64 x.dead] 34)) := (Below.refl _ _).alloc (Nat.le_refl _) _
      obtain ⟨C, hC⟩ : ∃ q, q = wo.heap.size := ⟨_, rfl⟩
      rw [← hC] at hz ⊢
      generalize wo.alloc (.cells #[.string x.id, .int .u32 x.idx, .int .i64 x.val, .int .i64 x.br, .int .u16 x.lock.tag, .int .u16 x.lock.delay, .int .u32 x.lock.height, .int .i64 x.dead] 34) = wc at *
      have hCo : w2.heap.size ≤ C := by have := HB.out.size; omega
      have HBC := Lib.hid (HB.out.trans (hal.mono HB.out.size))
      have hOC := HOW.out.below hal
      have hNC : ∀ b, r0.ownBlock = some b → b ≠ C := fun b e => by
        have h1 := HOW.out.row.lt b e
        omega
      have c2 : wc.cell? ⟨C, 2, none⟩ = some (.int .i64 x.val) := cell_at hz
      have c3 : wc.cell? ⟨C, 3, none⟩ = some (.int .i64 x.br) := cell_at hz
      have c6 : wc.cell? ⟨C, 6, none⟩ = some (.int .u32 x.lock.height) := cell_at hz
      have f2 : wc.frozen? ⟨C, 2, none⟩ = false := free_at hz
      have f3 : wc.frozen? ⟨C, 3, none⟩ = false := free_at hz
      have f6 : wc.frozen? ⟨C, 6, none⟩ = false := free_at hz
      obtain ⟨hh, hhh⟩ : ∃ q, q = x.lock.height % 1000001 := ⟨_, rfl⟩
      have hmod : ((x.lock.height : Int)).tmod 1000001 = (hh : Int) := by rw [Int.tmod_eq_emod_of_nonneg (by omega), hhh]; rfl
      obtain ⟨v2, hv2⟩ : ∃ q, q = max 0 x.val % 1000000 := ⟨_, rfl⟩
      obtain ⟨v3, hv3⟩ : ∃ q, q = max 0 x.br % 3 := ⟨_, rfl⟩
      have HY := Lib.hid (show nearC x = ⟨x.id, x.idx, v2, v3, ⟨x.lock.tag, x.lock.delay, hh⟩, x.dead⟩ by unfold nearC; rw [hhh, hv2, hv3])
      have H2 := Lib.hid hv2
      have H3 := Lib.hid hv3
      clear hhh hv2 hv3
      have HCZ := Lib.hid hz
      have HOC := Lib.hid hOC
      have HNC := Lib.hid hNC
      clear hz hal hC hOC hNC d0 d1 d2 d3 d4 d5 d6 d7
      go_upto_region 7 with fail
      rw [← H2.out, ← H3.out]
      have g2 := heap_setCell_at (j := 2) (u := .int .i64 v2) HCZ.out
      have g3 := heap_setCell_at (j := 3) (u := .int .i64 v3) g2
      have g6 := heap_setCell_at (j := 6) (u := .int .u32 hh) g3
      have HB5 := Lib.hid (((HBC.out.setCell (p := ⟨C, 2, none⟩) hCo (.int .i64 v2)).setCell (p := ⟨C, 3, none⟩) hCo (.int .i64 v3)).setCell (p := ⟨C, 6, none⟩) hCo (.int .u32 hh))
      have HO5 := Lib.hid (show ClsOwn w2.heap.size (((wc.setCell ⟨C, 2, none⟩ (.int .i64 v2)).setCell ⟨C, 3, none⟩ (.int .i64 v3)).setCell ⟨C, 6, none⟩ (.int .u32 hh)) r0 ((ll.take k).map nearC) from HOC.out.kept fun b e => ((Below.heap_setCell _ _ _ _ (HNC.out b e)).trans (Below.heap_setCell _ _ _ _ (HNC.out b e))).trans (Below.heap_setCell _ _ _ _ (HNC.out b e)))
      generalize ((wc.setCell ⟨C, 2, none⟩ (.int .i64 v2)).setCell ⟨C, 3, none⟩ (.int .i64 v3)).setCell ⟨C, 6, none⟩ (.int .u32 hh) = w5 at *
      have hC5 : w5.heap[C]? = some (.cells #[.string x.id, .int .u32 x.idx, .int .i64 v2, .int .i64 v3, .int .u16 x.lock.tag, .int .u16 x.lock.delay, .int .u32 hh, .int .i64 x.dead] 34 (0, 0)) := g6
      have e0 : w5.cell? ⟨C, 0, none⟩ = some (.string x.id) := cell_at hC5
      have e1 : w5.cell? ⟨C, 1, none⟩ = some (.int .u32 x.idx) := cell_at hC5
      have e2 : w5.cell? ⟨C, 2, none⟩ = some (.int .i64 v2) := cell_at hC5
      have e3 : w5.cell? ⟨C, 3, none⟩ = some (.int .i64 v3) := cell_at hC5
      have e4 : w5.cell? ⟨C, 4, none⟩ = some (.int .u16 x.lock.tag) := cell_at hC5
      have e5 : w5.cell? ⟨C, 5, none⟩ = some (.int .u16 x.lock.delay) := cell_at hC5
      have e6 : w5.cell? ⟨C, 6, none⟩ = some (.int .u32 hh) := cell_at hC5
      have e7 : w5.cell? ⟨C, 7, none⟩ = some (.int .i64 x.dead) := cell_at hC5
      obtain ⟨i0, hi, hz0, hz1, hz2⟩ := info_parts info_cl
      obtain ⟨a8, c8, w6, hrun, hown6, hb6, hg6, hv6⟩ := append_one (P := Tryz.prog) Tryz.underlying22 hi hz0 hz1 hz2 rfl HO5.out.row #[.string x.id, .int .u32 x.idx, .int .i64 v2, .int .i64 v3, .int .u16 x.lock.tag, .int .u16 x.lock.delay, .int .u32 hh, .int .i64 x.dead] rfl (by simp [Value.oneCell']) (by rw [maxLen_eq, hlk]; omega) (by rw [hlk]; omega) HB5.out.size (ty := 22)
      have HO6 := Lib.hid (show ClsOwn w2.heap.size w6 (.slice a8 (k + 1) c8) ((ll.take (k + 1)).map nearC) from by
        rw [HTK.out]
        refine ClsOwn.snoc (w := w5) HO5.out.ok HXO.out ?_
        rw [hlk] at hown6 ⊢
        rw [HY.out]
        exact hown6)
      have HB6 := Lib.hid (HB5.out.trans hb6)
      rw [hlk] at hrun
      obtain ⟨a6, c6', hrs, -, -⟩ := ownsRow_shape HO5.out.row
      rw [hlk] at hrs
      subst hrs
      have HR := Lib.hid hrun
      clear g2 g3 g6 hC5 hrun hown6 hb6 hg6 hv6 hi hz0 hz1 hz2 hlk c2 c3 c6 f2 f3 f6 hmod
      go_wp2_with (at_builtin; refine wpList_append_run rfl (.tmp 46) (.tmp 48) 22 22 rfl rfl rfl HR.out ?_)
      go_roundg (n1 - (k + 1))
      case measure => have := HGK.out; omega
      case rel => exact ⟨k + 1, _, rfl, rfl, by omega, by go_num, HB6.out, HO6.out⟩
    · obtain rfl : n1 = k := by omega
      have HNL := Lib.hid (show ClsOwn w2.heap.size wo r0 (ll.map nearC) from by
        have h := HOW.out
        rw [List.take_of_length_le (by rw [HN1.out]; exact Nat.le_refl _)] at h
        exact h)
      have HEV := Lib.hid (HEV.out.below HB.out)
      have HS1 := Lib.hid (HS1.out.below HB.out)
      have HML := Lib.hid (show (ll.map nearC).length ≤ 34 by rw [List.length_map, ← HN1.out]; exact hlen)
      have HM1 := Lib.hid (show ll.length ≤ 34 by rw [← HN1.out]; exact hlen)
      obtain ⟨a2, c2, hr2, -, -⟩ := ownsRow_shape HNL.out.row
      subst hr2
      have HS2 := Lib.hid HNL.out.sl
      rw [HN1.out] at HS1 ⊢
      generalize (ll.map nearC).length = n2 at *
      clear HOW HNL HB
      go_wp2_with fail
      have hz := heap_alloc_new wo (.cells #[.slice a1 ll.length c1, .slice a2 n2 c2] 22)
      have hal : Below wo.heap.size wo (wo.alloc (.cells #[.slice a1 ll.length c1, .slice a2 n2 c2] 22)) := (Below.refl _ _).alloc (Nat.le_refl _) _
      obtain ⟨R, hR⟩ : ∃ q, q = wo.heap.size := ⟨_, rfl⟩
      rw [← hR] at hz ⊢
      generalize wo.alloc (.cells #[.slice a1 ll.length c1, .slice a2 n2 c2] 22) = w5 at *
      have HEV := Lib.hid (HEV.out.below hal)
      have HS1 := Lib.hid (HS1.out.below hal)
      have HS2 := Lib.hid (HS2.out.below hal)
      have HR := Lib.hid hz
      clear hz hal hR
      have HTAG := Lib.hid HOK.out.tag
      go_loopg [55] 2 (fun g i wr => ∃ k : Nat, g = 2 - k ∧ k ≤ 2 ∧ i = .int .i64 k ∧ Below w5.heap.size w5 wr)
      case atStart => exact ⟨0, rfl, by omega, rfl, Below.refl _ _⟩
      case round =>
        rename World => wa
        obtain ⟨k, hgk, hk, rfl, hba⟩ := hrel
        have HGK := Lib.hid hgk
        have HBA := Lib.hid hba
        have HEV := Lib.hid (HEV.out.below hba)
        clear hgk hba
        by_cases hlt2 : k < 2
        · obtain ⟨u, ⟨lx, hlx, hxl⟩, q0⟩ := two_slK (stay HR.out HBA.out) hlt2 (fun u => ∃ lx : List PCl, SlAt rpCl w5 u lx ∧ lx.length ≤ 34) ⟨_, HS1.out, HM1.out⟩ ⟨_, HS2.out, by rw [List.length_map]; exact HM1.out⟩
          have HLX := Lib.hid hlx
          obtain ⟨xa, xc, rfl, -, -⟩ := hlx.shape
          obtain ⟨nx, hnx⟩ : ∃ q, q = lx.length := ⟨_, rfl⟩
          rw [← hnx] at HLX hxl q0
          have HNX := Lib.hid hnx
          have z3 : wa.cell? ⟨X, 3, none⟩ = some (.int .i64 z.val) := cell_at HEV.out.x
          clear hlx hnx
          go_wp2_with fail
          have hvr : 0 ≤ max 0 z.val % 1000000 ∧ max 0 z.val % 1000000 < 1000000 := by omega
          generalize max 0 z.val % 1000000 = v2 at *
          have hz := heap_alloc_new wa (.cells #[.int .i64 z.val, .int .i64 v2] 3)
          have hal : Below wa.heap.size wa (wa.alloc (.cells #[.int .i64 z.val, .int .i64 v2] 3)) := (Below.refl _ _).alloc (Nat.le_refl _) _
          obtain ⟨S, hS⟩ : ∃ q, q = wa.heap.size := ⟨_, rfl⟩
          rw [← hS] at hz ⊢
          generalize wa.alloc (.cells #[.int .i64 z.val, .int .i64 v2] 3) = wc at *
          have HBC := Lib.hid (HBA.out.trans (hal.mono HBA.out.size))
          have HEV := Lib.hid (HEV.out.below hal)
          have HS := Lib.hid hz
          have HVR := Lib.hid hvr
          clear hz hal hS z3 hvr q0
          rw [show decide ((k : Int) < 2) = true from decide_eq_true (by omega)]
          go_loopg [67] 2 (fun g i wr => ∃ j : Nat, g = 2 - j ∧ j ≤ 2 ∧ i = .int .i64 j ∧ Below wc.heap.size wc wr)
          case atStart => exact ⟨0, rfl, by omega, rfl, Below.refl _ _⟩
          case round =>
            rename World => wd
            obtain ⟨j, hgj, hj, rfl, hbd⟩ := hrel
            have HGJ := Lib.hid hgj
            have HBD := Lib.hid (HBC.out.trans (hbd.mono HBC.out.size))
            have HBDC := Lib.hid hbd
            have HEV := Lib.hid (HEV.out.below hbd)
            have HS := Lib.hid (stay HS.out hbd)
            clear hgj hbd
            by_cases hlj : j < 2
            · obtain ⟨cv, hcv, s0⟩ := two_intK HS.out hlj HOK.out.val (by have := HVR.out; omega)
              have HCV := Lib.hid hcv
              have z5 : wd.cell? ⟨X, 5, none⟩ = some (.int .i64 z.fee) := cell_at HEV.out.x
              clear hcv
              go_wp2_with fail
              have hfr : 0 ≤ max 0 z.fee % 1000000 ∧ max 0 z.fee % 1000000 < 1000000 := by omega
              generalize max 0 z.fee % 1000000 = f2 at *
              have hz := heap_alloc_new wd (.cells #[.int .i64 z.fee, .int .i64 f2] 3)
              have hal : Below wd.heap.size wd (wd.alloc (.cells #[.int .i64 z.fee, .int .i64 f2] 3)) := (Below.refl _ _).alloc (Nat.le_refl _) _
              obtain ⟨U, hU⟩ : ∃ q, q = wd.heap.size := ⟨_, rfl⟩
              rw [← hU] at hz ⊢
              generalize wd.alloc (.cells #[.int .i64 z.fee, .int .i64 f2] 3) = we at *
              have HBE := Lib.hid (HBD.out.trans (hal.mono HBD.out.size))
              have HBEC := Lib.hid (HBDC.out.trans (hal.mono HBDC.out.size))
              have HEV := Lib.hid (HEV.out.below hal)
              have HU := Lib.hid hz
              have HFR := Lib.hid hfr
              clear hz hal hU z5 s0 HBD HBDC hfr
              rw [show decide ((j : Int) < 2) = true from decide_eq_true (by omega)]
              go_loopg [79] 2 (fun g i wr => ∃ q : Nat, g = 2 - q ∧ q ≤ 2 ∧ i = .int .i64 q ∧ Below we.heap.size we wr)
              case atStart => exact ⟨0, rfl, by omega, rfl, Below.refl _ _⟩
              case round =>
                rename World => wf
                obtain ⟨q, hgq, hq, rfl, hbf⟩ := hrel
                have HGQ := Lib.hid hgq
                have HBF := Lib.hid (HBE.out.trans (hbf.mono HBE.out.size))
                have HBFC := Lib.hid (HBEC.out.trans (hbf.mono HBEC.out.size))
                have HBFE := Lib.hid hbf
                have HEV := Lib.hid (HEV.out.below hbf)
                have HU := Lib.hid (stay HU.out hbf)
                clear hgq hbf
                by_cases hlq : q < 2
                · obtain ⟨fe, hfe, s0⟩ := two_intK HU.out hlq HOK.out.fee (by have := HFR.out; omega)
                  clear hfe
                  go_upto_region 19 with fail
                  have hz := heap_alloc_new wf (.cells #[.int .i64 cv, .string ⟨#[]⟩, .int .i64 0] 40)
                  have hal : Below wf.heap.size wf (wf.alloc (.cells #[.int .i64 cv, .string ⟨#[]⟩, .int .i64 0] 40)) := (Below.refl _ _).alloc (Nat.le_refl _) _
                  obtain ⟨C, hC⟩ : ∃ q, q = wf.heap.size := ⟨_, rfl⟩
                  rw [← hC] at hz ⊢
                  generalize wf.alloc (.cells #[.int .i64 cv, .string ⟨#[]⟩, .int .i64 0] 40) = wg at *
                  have HBG := Lib.hid (HBFE.out.trans (hal.mono HBFE.out.size))
                  have HBG5 := Lib.hid (HBF.out.trans (hal.mono HBF.out.size))
                  have HEV := Lib.hid (HEV.out.below hal)
                  have d0 : wg.cell? ⟨C, 0, none⟩ = some (.int .i64 cv) := cell_at hz
                  have d1 : wg.cell? ⟨C, 1, none⟩ = some (.string ⟨#[]⟩) := cell_at hz
                  have d2 : wg.cell? ⟨C, 2, none⟩ = some (.int .i64 0) := cell_at hz
                  have q0 : wg.cell? ⟨P, 0, none⟩ = some (.string sp) := cell_at HEV.out.p
                  have q1 : wg.cell? ⟨P, 1, none⟩ = some (.int .u32 si) := cell_at HEV.out.p
                  have z4 : wg.cell? ⟨X, 4, none⟩ = some (.int .u16 z.tag) := cell_at HEV.out.x
                  clear hz hal hC s0
                  have HB1 := Lib.hid (claimB_any (.slice xa nx xc) lx sp si cv ⟨#[]⟩ 0 z.tag fe wg (HLX.out.below HBG5.out) (by rw [← HNX.out]; omega) HPL.out hpi (wf_of HCV.out) HTAG.out)
                  have HB2 := Lib.hid (fun y h => rclaimB_any (.slice xa nx xc) lx sp si cv ⟨#[]⟩ 0 z.tag fe y h (by rw [← HNX.out]; omega) HPL.out hpi (wf_of HCV.out) HTAG.out)
                  unfold enV at HB1 HB2
                  generalize claimsOf lx sp si cv z.tag fe = res at *
                  obtain ⟨t, er⟩ := res
                  go_wp2_with fail
                  refine HB1.out.mono ?_
                  rintro e wh ⟨v1, rfl, htx, hb⟩
                  have HBH := Lib.hid (HBG.out.trans (hb.mono HBG.out.size))
                  have HBH5 := Lib.hid (HBG5.out.trans (hb.mono HBG5.out.size))
                  have HTX := Lib.hid htx.at
                  replace d0 := below_cells hb _ _ d0
                  replace d1 := below_cells hb _ _ d1
                  replace d2 := below_cells hb _ _ d2
                  replace q0 := below_cells hb _ _ q0
                  replace q1 := below_cells hb _ _ q1
                  replace z4 := below_cells hb _ _ z4
                  obtain ⟨a1', b1, a2', b2, rfl⟩ := htx.at.shapeK
                  clear hb htx HB1 HBG HBG5
                  generalize hm1 : t.ins.length = m1 at *
                  generalize hm2 : t.outs.length = m2 at *
                  have HM1 := Lib.hid hm1
                  have HM2 := Lib.hid hm2
                  clear hm1 hm2
                  dsimp only
                  go_upto_region 20 with fail
                  have hz := heap_alloc_new wh (.cells #[.int .u32 t.ver, .slice a1' m1 b1, .slice a2' m2 b2, .int .u32 t.lock] 44)
                  have hal : Below wh.heap.size wh (wh.alloc (.cells #[.int .u32 t.ver, .slice a1' m1 b1, .slice a2' m2 b2, .int .u32 t.lock] 44)) := (Below.refl _ _).alloc (Nat.le_refl _) _
                  obtain ⟨T, hT⟩ : ∃ q, q = wh.heap.size := ⟨_, rfl⟩
                  rw [← hT] at hz ⊢
                  generalize wh.alloc (.cells #[.int .u32 t.ver, .slice a1' m1 b1, .slice a2' m2 b2, .int .u32 t.lock] 44) = wi at *
                  have HBI := Lib.hid (HBH.out.trans (hal.mono HBH.out.size))
                  have HB2 := Lib.hid (HB2.out wi (HLX.out.below (HBH5.out.trans (hal.mono HBH5.out.size))))
                  have HTX := Lib.hid (HTX.out.below hal)
                  replace d0 := below_cells hal _ _ d0
                  replace d1 := below_cells hal _ _ d1
                  replace d2 := below_cells hal _ _ d2
                  replace q0 := below_cells hal _ _ q0
                  replace q1 := below_cells hal _ _ q1
                  replace z4 := below_cells hal _ _ z4
                  have t0 : wi.cell? ⟨T, 0, none⟩ = some (.int .u32 t.ver) := cell_at hz
                  have t1 : wi.cell? ⟨T, 1, none⟩ = some (.slice a1' m1 b1) := cell_at hz
                  have t2 : wi.cell? ⟨T, 2, none⟩ = some (.slice a2' m2 b2) := cell_at hz
                  have t3 : wi.cell? ⟨T, 3, none⟩ = some (.int .u32 t.lock) := cell_at hz
                  clear hz hal hT HBH HBH5
                  go_wp2_with fail
                  refine HB2.out.mono ?_
                  rintro e wj ⟨v2', rfl, htx, hb⟩
                  have HBJ := Lib.hid (HBI.out.trans (hb.mono HBI.out.size))
                  have HTX := Lib.hid (HTX.out.below hb)
                  have HTY := Lib.hid htx.at
                  replace t0 := below_cells hb _ _ t0
                  replace t1 := below_cells hb _ _ t1
                  replace t2 := below_cells hb _ _ t2
                  replace t3 := below_cells hb _ _ t3
                  obtain ⟨a3, b3, a4, b4, rfl⟩ := htx.at.shapeK
                  clear hb htx HB2 HBI d0 d1 d2 z4 q0 q1
                  dsimp only
                  dsimp only at HTY
                  rw [HM1.out, HM2.out] at HTY ⊢
                  go_upto_region 21 with fail
                  have hz := heap_alloc_new wj (.cells #[.int .u32 t.ver, .slice a3 m1 b3, .slice a4 m2 b4, .int .u32 t.lock] 44)
                  have hal : Below wj.heap.size wj (wj.alloc (.cells #[.int .u32 t.ver, .slice a3 m1 b3, .slice a4 m2 b4, .int .u32 t.lock] 44)) := (Below.refl _ _).alloc (Nat.le_refl _) _
                  obtain ⟨W, hW⟩ : ∃ q, q = wj.heap.size := ⟨_, rfl⟩
                  rw [← hW] at hz ⊢
                  generalize wj.alloc (.cells #[.int .u32 t.ver, .slice a3 m1 b3, .slice a4 m2 b4, .int .u32 t.lock] 44) = wk at *
                  have HBK := Lib.hid (HBJ.out.trans (hal.mono HBJ.out.size))
                  have HTX := Lib.hid (HTX.out.below hal)
                  have HTY := Lib.hid (HTY.out.below hal)
                  replace t0 := below_cells hal _ _ t0
                  replace t1 := below_cells hal _ _ t1
                  replace t2 := below_cells hal _ _ t2
                  replace t3 := below_cells hal _ _ t3
                  have u0 : wk.cell? ⟨W, 0, none⟩ = some (.int .u32 t.ver) := cell_at hz
                  have u1 : wk.cell? ⟨W, 1, none⟩ = some (.slice a3 m1 b3) := cell_at hz
                  have u2 : wk.cell? ⟨W, 2, none⟩ = some (.slice a4 m2 b4) := cell_at hz
                  have u3 : wk.cell? ⟨W, 3, none⟩ = some (.int .u32 t.lock) := cell_at hz
                  clear hz hal hW HBJ
                  have HSM := Lib.hid (same_any _ _ t t wk HTX.out HTY.out)
                  rw [same_yes rfl] at HSM
                  go_wp2_with fail
                  refine HSM.out.mono ?_
                  rintro e wl ⟨rfl, hb⟩
                  have HBL := Lib.hid (HBK.out.trans (hb.mono HBK.out.size))
                  clear hb HSM t0 t1 t2 t3 u0 u1 u2 u3 HBK HTX HTY
                  go_wp2_with fail
                  go_roundg (2 - (q + 1))
                  case measure => have := HGQ.out; omega
                  case rel => exact ⟨q + 1, rfl, by omega, by go_num, HBL.out⟩
                · obtain rfl : q = 2 := by omega
                  go_wp2_with fail
                  go_roundg (2 - (j + 1))
                  case measure => have := HGJ.out; omega
                  case rel => exact ⟨j + 1, rfl, by omega, by go_num, HBFC.out⟩
            · obtain rfl : j = 2 := by omega
              go_wp2_with fail
              go_roundg (2 - (k + 1))
              case measure => have := HGK.out; omega
              case rel => exact ⟨k + 1, rfl, by omega, by go_num, HBD.out⟩
        · obtain rfl : k = 2 := by omega
          go_wp2_with fail
          refine (wakes25_any wa).mono ?_
          rintro e wb ⟨rfl, hb⟩
          have HBB := Lib.hid (HEV.out.bel.trans (hb.mono HEV.out.bel.size))
          clear hb
          go_wp2_with fail
          go_ret
          exact ⟨rfl, HBB.out⟩
theorem claimBuilds_at (v : Value) (q : Value × List PCl × PRw) (w : World) (h : RawAt w v q) : Calls Tryz.prog 3 #[v] w (BIs true w) := by
  obtain ⟨rfl, h1, h2⟩ := h
  exact claimBuilds_walk q.1 q.2.1 q.2.2 w h1 h2
end Go.Proofs.YtmakghcoehkphaaGreat
