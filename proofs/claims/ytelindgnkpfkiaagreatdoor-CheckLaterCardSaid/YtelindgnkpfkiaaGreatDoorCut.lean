/-
  kedgeref05.Cut: a transaction of not too many parts, in memory of its own. Conditions: none beyond each theorem's own.
-/
import Derived.Test.YtelindgnkpfkiaaGreatDoorQ1CheckFeesCard
import Derived.BigQuiet
import Derived.Deep.QuietTactic
import Derived.Deep.RegionHeld3
import Derived.OwnWalk
import Derived.Deep.LoopGhost
import Derived.Deep.DeepCutAuto
import Derived.Deep.CutBlock
namespace Go.Proofs.YtelindgnkpfkiaaGreatDoor
open Go.RowKit
set_option linter.unusedVariables false
set_option linter.unusedSimpArgs false

def capB (n : Nat) (s : ByteArray) : ByteArray := if n < s.size then s.extract 0 n else s
theorem capB_size (n : Nat) (s : ByteArray) : (capB n s).size ≤ s.size := by
  unfold capB; split
  · simp [ByteArray.size_extract]; omega
  · exact Nat.le_refl _
theorem capB_le (n : Nat) (s : ByteArray) : (capB n s).size ≤ n := by
  unfold capB; split
  · simp [ByteArray.size_extract]; omega
  · omega
def cutIn (x : PIn) : PIn := ⟨capB 40 x.id, x.idx, x.seq, (x.wit.take 6).map (capB 90)⟩
def cutOut (x : POut) : POut := ⟨x.val, capB 50 x.script⟩
def cutTx (most : Nat) (t : PTx) : PTx := ⟨t.ver, (t.ins.take most).map cutIn, (t.outs.take most).map cutOut, t.lock⟩

theorem info_in : (Tryz.prog.info? 56).map (fun i => (i.zero, i.size, i.bytes)) = some (some (.agg #[.string ByteArray.empty, .int .u32 0, .int .u32 0, .slice none 0 0]), 4, 56) := by kernel_rfl
theorem info_out : (Tryz.prog.info? 48).map (fun i => (i.zero, i.size, i.bytes)) = some (some (.agg #[.int .i64 0, .string ByteArray.empty]), 2, 24) := by kernel_rfl
theorem info_str : (Tryz.prog.info? 9).map (fun i => (i.zero, i.size, i.bytes)) = some (some (.string ByteArray.empty), 1, 16) := by kernel_rfl

/-- The blocks of the call: the argument, the result, what is being made. -/
structure CW (w : World) (ver lock : Nat) (va vb vi vo : Value) (wr : World) : Prop where
  bel : Below w.heap.size w wr
  t : wr.heap[w.heap.size]? = some (.cells #[.int .u32 ver, va, vb, .int .u32 lock] 35 (0, 0))
  r : wr.heap[w.heap.size + 1]? = some (.cells #[.int .u32 0, .slice none 0 0, .slice none 0 0, .int .u32 0] 35 (0, 0))
  u : wr.heap[w.heap.size + 1 + 1]? = some (.cells #[.int .u32 ver, vi, vo, .int .u32 lock] 35 (0, 0))
theorem CW.size {w : World} {ver lock : Nat} {va vb vi vo : Value} {wr : World} (h : CW w ver lock va vb vi vo wr) : w.heap.size + 3 ≤ wr.heap.size := by
  have := (Array.getElem?_eq_some_iff.1 h.u).1; omega
theorem CW.next {w : World} {ver lock : Nat} {va vb vi vo : Value} {wr w' : World} (h : CW w ver lock va vb vi vo wr) {X : Nat} (hb : Below X wr w') (hX : w.heap.size + 3 ≤ X) : CW w ver lock va vb vi vo w' :=
  ⟨h.bel.trans (hb.mono (by omega)), (hb.block _ (by omega)).trans h.t, (hb.block _ (by omega)).trans h.r, (hb.block _ (by omega)).trans h.u⟩
theorem CW.start (w : World) (ver lock : Nat) (va vb : Value) : CW w ver lock va vb (.slice none 0 0) (.slice none 0 0) (((w.alloc (.cells #[.int .u32 ver, va, vb, .int .u32 lock] 35)).alloc (.cells #[.int .u32 0, .slice none 0 0, .slice none 0 0, .int .u32 0] 35)).alloc (.cells #[.int .u32 ver, .slice none 0 0, .slice none 0 0, .int .u32 lock] 35)) := by
  have s1 : (w.alloc (.cells #[.int .u32 ver, va, vb, .int .u32 lock] 35)).heap.size = w.heap.size + 1 := by simp
  have s2 : ((w.alloc (.cells #[.int .u32 ver, va, vb, .int .u32 lock] 35)).alloc (.cells #[.int .u32 0, .slice none 0 0, .slice none 0 0, .int .u32 0] 35)).heap.size = w.heap.size + 1 + 1 := by simp
  refine ⟨(((Below.refl _ _).alloc (Nat.le_refl _) _).alloc (by omega) _).alloc (by omega) _, ?_, ?_, ?_⟩
  · rw [Below.heap_alloc _ _ _ (by omega), Below.heap_alloc _ _ _ (by omega)]
    exact heap_alloc_new w _
  · rw [Below.heap_alloc _ _ _ (by omega), ← s1]
    exact heap_alloc_new _ _
  · rw [← s2]
    exact heap_alloc_new _ _

/-- The block of the element that is being made. -/
structure XW (wr : World) (cs : Array Value) (e : TypeId) (wq : World) : Prop where
  bel : Below wr.heap.size wr wq
  x : wq.heap[wr.heap.size]? = some (.cells cs e (0, 0))
theorem XW.size {wr wq : World} {cs : Array Value} {e : TypeId} (h : XW wr cs e wq) : wr.heap.size + 1 ≤ wq.heap.size := (Array.getElem?_eq_some_iff.1 h.x).1
theorem XW.next {wr wq w' : World} {cs : Array Value} {e : TypeId} (h : XW wr cs e wq) (hb : Below (wr.heap.size + 1) wq w') : XW wr cs e w' :=
  ⟨h.bel.trans (hb.mono (by omega)), (hb.block _ (by omega)).trans h.x⟩
theorem XW.put {wr wq : World} {cs : Array Value} {e : TypeId} (h : XW wr cs e wq) (j : Nat) (u : Value) : XW wr (cs.setIfInBounds j u) e (wq.setCell ⟨wr.heap.size, j, none⟩ u) :=
  ⟨h.bel.setCell (Nat.le_refl _) _, heap_setCell_at h.x⟩
theorem XW.start0 (wr : World) (cs : Array Value) (e : TypeId) : XW wr cs e (wr.alloc (.cells cs e)) :=
  ⟨(Below.refl _ _).alloc (Nat.le_refl _) _, heap_alloc_new wr _⟩
theorem XW.start (wr : World) (cs : Array Value) (e : TypeId) : XW wr cs e (wr.alloc (.cells cs e)).drew :=
  ⟨((Below.refl _ _).alloc (Nat.le_refl _) _).drew, heap_alloc_new wr _⟩

theorem take_enough {α : Type} {l : List α} {j m : Nat} (h1 : j ≤ l.length) (h2 : j ≤ m) (h : ¬ (j < l.length ∧ j < m)) : l.take j = l.take m := by
  rcases Nat.lt_or_ge j l.length with hj | hj
  · obtain rfl : j = m := by omega
    rfl
  · rw [List.take_of_length_le hj, List.take_of_length_le (by omega)]
theorem strCells_snoc (l : List ByteArray) (s : ByteArray) : strCells (l ++ [s]) = strCells l ++ [.string s] := by simp [strCells]
theorem take_snoc {α : Type} {l : List α} {j : Nat} {x : α} (h : l[j]? = some x) : l.take (j + 1) = l.take j ++ [x] := by
  rw [List.take_add_one, h]; rfl
theorem CW.put {w : World} {ver lock : Nat} {va vb vi vo : Value} {wr : World} (h : CW w ver lock va vb vi vo wr) (vi' : Value) : CW w ver lock va vb vi' vo (wr.setCell ⟨w.heap.size + 1 + 1, 1, none⟩ vi') := by
  refine ⟨h.bel.setCell (by simp; omega) _, ?_, ?_, ?_⟩
  · exact (Below.heap_setCell _ _ _ _ (by simp; omega)).trans h.t
  · exact (Below.heap_setCell _ _ _ _ (by simp)).trans h.r
  · exact heap_setCell_at h.u
theorem CW.put2 {w : World} {ver lock : Nat} {va vb vi vo : Value} {wr : World} (h : CW w ver lock va vb vi vo wr) (vo' : Value) : CW w ver lock va vb vi vo' (wr.setCell ⟨w.heap.size + 1 + 1, 2, none⟩ vo') := by
  refine ⟨h.bel.setCell (by simp; omega) _, ?_, ?_, ?_⟩
  · exact (Below.heap_setCell _ _ _ _ (by simp; omega)).trans h.t
  · exact (Below.heap_setCell _ _ _ _ (by simp)).trans h.r
  · exact heap_setCell_at h.u

def CutIs (most : Nat) (t : PTx) (w : World) (e : Ending) (w' : World) : Prop := ∃ v, e = .returned v ∧ TxOwn w.heap.size w' v (cutTx most t) ∧ Below w.heap.size w w'

theorem cut_is {w wz w4 : World} {ver lock most : Nat} {ins : List PIn} {outs : List POut} {vi vo : Value} {ps : List (PIn × Value)} (hi : InsOwn (w.heap.size + 3) wz vi ps) (ho : OutsOwn (w.heap.size + 3) wz vo ((outs.take most).map cutOut))
    (ha : ∀ b, vo.ownBlock = some b → ¬ InsHas vi ps b) (hp : ps.map (·.1) = (ins.take most).map cutIn) (hv : ver < 4294967296 ∧ lock < 4294967296) (hk : ∀ b, w.heap.size + 3 ≤ b → w4.heap[b]? = wz.heap[b]?) (hb : Below w.heap.size w w4) :
    CutIs most ⟨ver, ins, outs, lock⟩ w (.returned (.agg #[.int .u32 ver, vi, vo, .int .u32 lock])) w4 :=
  ⟨_, rfl, ⟨⟨vi, vo, ps, rfl, hp.symm, (hi.kept fun b hh => hk b (hi.lt hh).1).base (by omega), (ho.kept fun b e => hk b (ho.row.lt b e).1).base (by omega), ha⟩, hv.1, hv.2⟩, hb⟩

set_option maxRecDepth 100000 in
set_option maxHeartbeats 4000000 in
theorem cut_any (v : Value) (t : PTx) (most : Nat) (w : World) (hv : TxAt w v t) (hm : most ≤ 1000) :
    Calls Tryz.prog 31 #[v, .int .i64 most] w (CutIs most t w) := by
  obtain ⟨va, vb, rfl, hia, hob, hver, hlock⟩ := hv
  obtain ⟨a, c, rfl, hl1, hl2⟩ := hia.shape
  obtain ⟨a', c', rfl, hl1', hl2'⟩ := hob.shape
  rw [maxLen_eq] at hl2 hl2'
  obtain ⟨ver, ins, outs, lock⟩ := t
  dsimp only at *
  have HI := Lib.hid hia
  have HO := Lib.hid hob
  clear hia hob
  have HV := Lib.hid (And.intro hver hlock)
  clear hver hlock
  obtain ⟨n, hn⟩ : ∃ n, n = ins.length := ⟨_, rfl⟩
  obtain ⟨n', hn'⟩ : ∃ n, n = outs.length := ⟨_, rfl⟩
  rw [← hn] at HI hl1
  rw [← hn'] at HO hl1'
  rw [← hn, ← hn']
  have HN := Lib.hid hn
  have HN' := Lib.hid hn'
  clear hn hn'
  have hstart := CW.start w ver lock (.slice a n c) (.slice a' n' c')
  have HS0 := Lib.hid hstart
  clear hstart
  go_enter Tryz.func31, Tryz.ntmps31
  go_upto_block 0 with fail
  generalize ((w.alloc (.cells #[.int .u32 ver, .slice a n c, .slice a' n' c', .int .u32 lock] 35)).alloc (.cells #[.int .u32 0, .slice none 0 0, .slice none 0 0, .int .u32 0] 35)).alloc (.cells #[.int .u32 ver, .slice none 0 0, .slice none 0 0, .int .u32 lock] 35) = w0 at *
  go_cut [6, 7, 8, 9] (fun _ _ _ _ wx => ∃ (vi : Value) (ps : List (PIn × Value)), CW w ver lock (.slice a n c) (.slice a' n' c') vi (.slice none 0 0) wx ∧ InsOwn (w.heap.size + 3) wx vi ps ∧ ps.map (·.1) = (ins.take most).map cutIn)
  case first =>
    go_wp2_with fail
    go_loopg [6, 7, 8, 9] n (fun g i _ _ _ wr => ∃ (k : Nat) (vi : Value) (ps : List (PIn × Value)), g = n - k ∧ k ≤ n ∧ k ≤ most ∧ i = .int .i64 k ∧ CW w ver lock (.slice a n c) (.slice a' n' c') vi (.slice none 0 0) wr ∧ InsOwn (w.heap.size + 3) wr vi ps ∧ ps.map (·.1) = (ins.take k).map cutIn)
    case atStart => exact ⟨0, _, [], by omega, by omega, by omega, rfl, HS0.out, insOwn_nil _ _, by simp⟩
    case round =>
      rename World => wo
      obtain ⟨k, vi, ps, hgk, hkn, hkm, rfl, hcw, hps, hpe⟩ := hrel
      obtain ⟨ai, ci, rfl, -, -⟩ := ownsRow_shape hps.row
      have ct1 : wo.cell? ⟨w.heap.size, 1, none⟩ = some (.slice a n c) := cell_at hcw.t
      have HCW := Lib.hid hcw
      have HPS := Lib.hid hps
      have HPE := Lib.hid hpe
      have HGK := Lib.hid hgk
      clear hcw hps hpe hgk HS0
      by_cases hlt : k < n ∧ k < most
      · obtain ⟨hkn', hkm'⟩ := hlt
        obtain ⟨b, o, x, wv, rfl, hx, hseq, hidx, hid, hwv, d0, d1, d2, d3⟩ := (HI.out.below HCW.out.bel).inp hkn'
        obtain ⟨wa, wc, rfl, hwl, hwm⟩ := hwv.shape
        rw [maxLen_eq] at hwm
        have HX := Lib.hid hx
        have HWV := Lib.hid hwv
        have HB := Lib.hid (And.intro hseq hidx)
        clear hx hwv hseq hidx
        have d0' := fun ob => cell_over d0 ob
        have d1' := fun ob => cell_over d1 ob
        have d2' := fun ob => cell_over d2 ob
        have d3' := fun ob => cell_over d3 ob
        have ct1' := fun ob => cell_over ct1 ob
        go_wp2_with fail
        go_region
        clear d0' d1' d2' d3' ct1'
        have hx0 := XW.start wo #[.string x.id, .int .u32 x.idx, .int .u32 x.seq, .slice none 0 0] 56
        generalize (wo.alloc (.cells #[.string x.id, .int .u32 x.idx, .int .u32 x.seq, .slice none 0 0] 56)).drew = wx at *
        have e0 : wx.cell? ⟨wo.heap.size, 0, none⟩ = some (.string x.id) := cell_at hx0.x
        have f0 : wx.frozen? ⟨wo.heap.size, 0, none⟩ = false := free_at hx0.x
        have HX0 := Lib.hid hx0
        clear hx0 d0 d1 d2
        go_upto_if 46 with fail
        go_cut [6] (fun s6 wy => s6 = .int .i64 k ∧ XW wo #[.string (capB 40 x.id), .int .u32 x.idx, .int .u32 x.seq, .slice none 0 0] 56 wy)
        case first =>
          by_cases h40 : 40 < x.id.size
          · have hidx : capB 40 x.id = x.id.extract 0 40 := by rw [capB, if_pos h40]
            have HIDX := Lib.hid hidx
            clear hidx
            go_wp2_with fail
            go_meet
            exact ⟨rfl, by rw [HIDX.out]; exact HX0.out.put 0 (.string (x.id.extract 0 40))⟩
          · have hidx : capB 40 x.id = x.id := by rw [capB, if_neg h40]
            have HIDX := Lib.hid hidx
            clear hidx
            go_wp2_with fail
            go_meet
            exact ⟨rfl, by rw [HIDX.out]; exact HX0.out⟩
        case rest =>
          obtain ⟨rfl, hx1⟩ := hcut
          have HX1 := Lib.hid hx1
          clear hx1 e0 f0 HX0
          obtain ⟨id', hid'⟩ : ∃ i, i = capB 40 x.id := ⟨_, rfl⟩
          rw [← hid'] at HX1
          have HID := Lib.hid hid'
          obtain ⟨L, hL⟩ : ∃ L, L = x.wit.length := ⟨_, rfl⟩
          rw [← hL] at hwl HWV d3
          have HL := Lib.hid hL
          clear hL hid'
          go_wp2_with fail
          go_loopg [8, 9] L (fun g i _ wq => ∃ (j : Nat) (wv : Value), g = L - j ∧ j ≤ L ∧ j ≤ 6 ∧ i = .int .i64 j ∧ XW wo #[.string id', .int .u32 x.idx, .int .u32 x.seq, wv] 56 wq ∧ wq.ownsRow (wo.heap.size + 1) 9 1 wv j (strCells ((x.wit.take j).map (capB 90))))
          case atStart => exact ⟨0, _, by omega, by omega, by omega, rfl, HX1.out, World.ownsRow_nil _ _ _ _⟩
          case round =>
            obtain ⟨j, wv, hgj, hjL, hj6, rfl, hxw, hown⟩ := hrel
            obtain ⟨aw, cw, rfl, -, -⟩ := ownsRow_shape hown
            have c1 := below_cells hxw.bel _ _ ct1
            have d3q := below_cells hxw.bel _ _ d3
            have x3 : wr.cell? ⟨wo.heap.size, 3, none⟩ = some (.slice aw j cw) := cell_at hxw.x
            have HXW := Lib.hid hxw
            have HOWN := Lib.hid hown
            have HGJ := Lib.hid hgj
            clear hown hxw hgj
            by_cases hj : j < L ∧ j < 6
            · obtain ⟨hj1, hj2⟩ := hj
              obtain ⟨b2, o2, s, rfl, hs, hsl, g0⟩ := (HWV.out.below HXW.out.bel).str hj1
              have HS := Lib.hid hs
              clear hs
              go_upto_if 79 with fail
              go_cut [9] (fun s9 wy => s9 = .string (capB 90 s) ∧ wy = wr)
              case first =>
                by_cases h90 : 90 < s.size
                · have hidx : capB 90 s = s.extract 0 90 := by rw [capB, if_pos h90]
                  have HIDX := Lib.hid hidx
                  clear hidx
                  go_wp2_with fail
                  go_meet
                  exact ⟨by rw [HIDX.out], rfl⟩
                · have hidx : capB 90 s = s := by rw [capB, if_neg h90]
                  have HIDX := Lib.hid hidx
                  clear hidx
                  go_wp2_with fail
                  go_meet
                  exact ⟨by rw [HIDX.out], rfl⟩
              case rest =>
                obtain ⟨rfl, rfl⟩ := hcut
                obtain ⟨s', hs'⟩ : ∃ i, i = capB 90 s := ⟨_, rfl⟩
                rw [← hs']
                have HCS := Lib.hid hs'
                have hsl' : s'.size ≤ 9223372036854775807 := by rw [hs']; exact Nat.le_trans (capB_size _ _) hsl
                clear hs'
                obtain ⟨i0, hi, hz0, hz1, hz2⟩ := info_parts info_str
                obtain ⟨a2, c2, w2, hrun, hown2, hb2, hg2, hv2⟩ := append_one (P := Tryz.prog) Tryz.underlying54 hi hz0 hz1 hz2 rfl HOWN.out #[.string s'] rfl (by simp [Value.oneCell']) (by rw [maxLen_eq]; omega) (by omega) (by have := HXW.out.size; omega) (ty := 54)
                clear hi hz0 hz1 hz2 i0
                have hxw2 := HXW.out.next hb2
                have x32 : w2.cell? ⟨wo.heap.size, 3, none⟩ = some (.slice aw j cw) := cell_at hxw2.x
                have f32 : w2.frozen? ⟨wo.heap.size, 3, none⟩ = false := free_at hxw2.x
                have HXW2 := Lib.hid hxw2
                have HOWN2 := Lib.hid hown2
                have HR := Lib.hid hrun
                clear hxw2 hown2 hb2 hg2 hv2 hrun
                go_wp2_with (at_builtin; refine wpList_append_run rfl (.tmp 83) (.tmp 85) 54 54 rfl rfl rfl HR.out ?_)
                go_roundg (L - (j + 1))
                case measure => have := HGJ.out; omega
                case rel =>
                  refine ⟨j + 1, .slice a2 (j + 1) c2, rfl, by omega, by omega, by go_num, HXW2.out.put 3 (.slice a2 (j + 1) c2), ?_⟩
                  rw [take_snoc HS.out, List.map_append, List.map_cons, List.map_nil, strCells_snoc, ← HCS.out]
                  exact ownsRow_other HOWN2.out _ _ (fun e => by have := (HOWN2.out.lt _ e).1; dsimp only at this; omega)
            · have htk : x.wit.take j = x.wit.take 6 := take_enough (by rw [← HL.out]; exact hjL) hj6 (by rw [← HL.out]; exact hj)
              have hbx := HXW.out.bel
              have hcw1 := HCW.out.next hbx HCW.out.size
              have hps1 := HPS.out.below hbx
              have cu1 : wr.cell? ⟨w.heap.size + 1 + 1, 1, none⟩ = some (.slice ai ps.length ci) := cell_at hcw1.u
              have x0 : wr.cell? ⟨wo.heap.size, 0, none⟩ = some (.string id') := cell_at HXW.out.x
              have x1 : wr.cell? ⟨wo.heap.size, 1, none⟩ = some (.int .u32 x.idx) := cell_at HXW.out.x
              have x2 : wr.cell? ⟨wo.heap.size, 2, none⟩ = some (.int .u32 x.seq) := cell_at HXW.out.x
              have hpl : ps.length = k := by
                have := congrArg List.length HPE.out
                rw [List.length_map, List.length_map, List.length_take] at this
                have := HN.out
                omega
              have hsz0 := HCW.out.size
              have hsz1 := HXW.out.size
              obtain ⟨i0, hi, hz0, hz1, hz2⟩ := info_parts info_in
              obtain ⟨a3, c3, w3, hrun, hown3, hb3, hg3, hv3⟩ := append_one (P := Tryz.prog) Tryz.underlying33 hi hz0 hz1 hz2 rfl hps1.row #[.string id', .int .u32 x.idx, .int .u32 x.seq, .slice aw j cw] rfl (by simp [Value.oneCell']) (by rw [maxLen_eq]; omega) (by omega) (by omega) (ty := 33)
              clear hi hz0 hz1 hz2 i0
              have hcw3 := hcw1.next hb3 (Nat.le_refl _)
              have cu3 : w3.cell? ⟨w.heap.size + 1 + 1, 1, none⟩ = some (.slice ai ps.length ci) := cell_at hcw3.u
              have fu3 : w3.frozen? ⟨w.heap.size + 1 + 1, 1, none⟩ = false := free_at hcw3.u
              have hins : InsOwn (w.heap.size + 3) w3 (.slice a3 (ps.length + 1) c3) (ps ++ [(cutIn x, .slice aw j cw)]) := by
                have hcut : cutIn x = ⟨id', x.idx, x.seq, (x.wit.take j).map (capB 90)⟩ := by unfold cutIn; rw [HID.out, htk]
                have hwlt : ∀ b, (Value.slice aw j cw).ownBlock = some b → wo.heap.size + 1 ≤ b ∧ b < wr.heap.size := fun b e => HOWN.out.lt b e
                have hvlt : ∀ b, (Value.slice ai ps.length ci).ownBlock = some b → b < wo.heap.size := fun b e => (HPS.out.row.lt b e).2
                have hkeep : ∀ b, b < wr.heap.size → (Value.slice ai ps.length ci).ownBlock ≠ some b → w3.heap[b]? = wr.heap[b]? := fun b hb hn => by
                  rw [hg3.block b (by simp; omega) (fun e => hn e.symm)]
                  exact Below.heap_alloc _ _ _ hb
                have hjl : (x.wit.take j).length = j := by rw [List.length_take, ← HL.out]; omega
                refine hps1.snoc (x := cutIn x) (wv := .slice aw j cw) (by rw [hcut]; exact hown3) ?_ hkeep ?_ ?_ ?_
                · rcases hv3 with h | h
                  · exact .inl h
                  · exact .inr ⟨_, h, by omega, fun e => by have := (hwlt _ e).2; omega⟩
                · rw [hcut]
                  dsimp only
                  rw [List.length_map, hjl]
                  exact ownsRow_of_block (ownsRow_base HOWN.out (by omega)) (fun b e => hkeep b (hwlt b e).2 (fun e' => by have := hvlt b e'; have := (hwlt b e).1; omega))
                · rw [hcut]
                  refine ⟨by dsimp only; rw [HID.out, maxLen_eq]; exact Nat.le_trans (capB_size _ _) hid, HB.out.2, HB.out.1, fun s hs => ?_⟩
                  obtain ⟨y, hy, rfl⟩ := List.mem_map.1 hs
                  rw [maxLen_eq]
                  exact Nat.le_trans (capB_le _ _) (by omega)
                · intro b e hh
                  have := (HPS.out.lt hh).2
                  have := (hwlt b e).1
                  omega
              have HINS := Lib.hid hins
              have HCW3 := Lib.hid hcw3
              have HR := Lib.hid hrun
              clear hins hcw3 hrun hown3 hb3 hg3 hv3 hcw1 hps1 hbx htk hpl hsz0 hsz1
              have hcase : ¬ j < L ∨ (j < L ∧ ¬ j < 6) := by omega
              clear hj
              rcases hcase with h1 | ⟨h1, h2⟩
              all_goals
                go_wp2_with (at_builtin; refine wpList_append_run rfl (.tmp 89) (.tmp 91) 33 33 rfl rfl rfl HR.out ?_)
                go_roundg (n - (k + 1))
                case measure => have := HGK.out; omega
                case rel =>
                  refine ⟨k + 1, .slice a3 (ps.length + 1) c3, ps ++ [(cutIn x, .slice aw j cw)], rfl, by omega, by omega, by go_num, HCW3.out.put _, HINS.out.store _ _ ?_, ?_⟩
                  · intro hh
                    have := (HINS.out.lt hh).1
                    dsimp only at this
                    omega
                  · rw [take_snoc HX.out, List.map_append, List.map_append, HPE.out]
                    rfl
      · have hfin : (ins.take k) = ins.take most := take_enough (by rw [← HN.out]; exact hkn) hkm (by rw [← HN.out]; exact hlt)
        have HFIN := Lib.hid hfin
        clear hfin
        have hcase : ¬ k < n ∨ (k < n ∧ ¬ k < most) := by omega
        clear hlt
        rcases hcase with h1 | ⟨h1, h2⟩
        all_goals
          go_wp2_with fail
          go_meet
          exact ⟨_, ps, HCW.out, HPS.out, by rw [HPE.out, HFIN.out]⟩
  case rest =>
    obtain ⟨vi, ps, hcw0, hps0, hpe0⟩ := hcut
    have HC0 := Lib.hid hcw0
    have HPS := Lib.hid hps0
    have HPE := Lib.hid hpe0
    clear hcw0 hps0 hpe0 HS0
    rename World => wi
    go_upto_block 4 with fail
    go_cut [10, 11] (fun _ _ wx => ∃ (vo : Value), CW w ver lock (.slice a n c) (.slice a' n' c') vi vo wx ∧ InsOwn (w.heap.size + 3) wx vi ps ∧ OutsOwn (w.heap.size + 3) wx vo ((outs.take most).map cutOut) ∧ ∀ b, vo.ownBlock = some b → ¬ InsHas vi ps b)
    case first =>
      go_wp2_with fail
      go_loopg [10, 11] n' (fun g i _ wr => ∃ (k : Nat) (vo : Value), g = n' - k ∧ k ≤ n' ∧ k ≤ most ∧ i = .int .i64 k ∧ CW w ver lock (.slice a n c) (.slice a' n' c') vi vo wr ∧ InsOwn (w.heap.size + 3) wr vi ps ∧ OutsOwn (w.heap.size + 3) wr vo ((outs.take k).map cutOut) ∧ ∀ b, vo.ownBlock = some b → ¬ InsHas vi ps b)
      case atStart => exact ⟨0, _, by omega, by omega, by omega, rfl, HC0.out, HPS.out, by simpa using outsOwn_nil _ _, fun b e => by cases e⟩
      case round =>
        rename World => wo
        obtain ⟨k, vo, hgk, hkn, hkm, rfl, hcw, hps, hos, hap⟩ := hrel
        obtain ⟨l, hl⟩ : ∃ l, l = (outs.take k).map cutOut := ⟨_, rfl⟩
        rw [← hl] at hos
        have HL := Lib.hid hl
        obtain ⟨ai, ci, rfl, -, -⟩ := ownsRow_shape hos.row
        have ct1 : wo.cell? ⟨w.heap.size, 2, none⟩ = some (.slice a' n' c') := cell_at hcw.t
        have HCW := Lib.hid hcw
        have HIN := Lib.hid hps
        have HOS := Lib.hid hos
        have HAP := Lib.hid hap
        have HGK := Lib.hid hgk
        clear hcw hps hos hgk hap hl HC0
        by_cases hlt : k < n' ∧ k < most
        · obtain ⟨hkn', hkm'⟩ := hlt
          obtain ⟨b, o, x, rfl, hx, hok, d0, d1⟩ := (HO.out.below HCW.out.bel).outp hkn'
          have HX := Lib.hid hx
          have HOK := Lib.hid hok
          have hsl : x.script.size ≤ 9223372036854775807 := by have := hok.2; rw [maxLen_eq] at this; exact this
          clear hx hok
          go_upto_if 114 with fail
          have hx0 := XW.start0 wo #[.int .i64 x.val, .string x.script] 48
          generalize (wo.alloc (.cells #[.int .i64 x.val, .string x.script] 48)) = wx at *
          have e0 : wx.cell? ⟨wo.heap.size, 1, none⟩ = some (.string x.script) := cell_at hx0.x
          have f0 : wx.frozen? ⟨wo.heap.size, 1, none⟩ = false := free_at hx0.x
          have HX0 := Lib.hid hx0
          clear hx0 d0 d1
          go_cut [10] (fun s10 wy => s10 = .int .i64 k ∧ XW wo #[.int .i64 x.val, .string (capB 50 x.script)] 48 wy)
          case first =>
            by_cases h40 : 50 < x.script.size
            · have hidx : capB 50 x.script = x.script.extract 0 50 := by rw [capB, if_pos h40]
              have HIDX := Lib.hid hidx
              clear hidx
              go_wp2_with fail
              go_meet
              exact ⟨rfl, by rw [HIDX.out]; exact HX0.out.put 1 (.string (x.script.extract 0 50))⟩
            · have hidx : capB 50 x.script = x.script := by rw [capB, if_neg h40]
              have HIDX := Lib.hid hidx
              clear hidx
              go_wp2_with fail
              go_meet
              exact ⟨rfl, by rw [HIDX.out]; exact HX0.out⟩
          case rest =>
            obtain ⟨rfl, hx1⟩ := hcut
            rename World => wr
            obtain ⟨s', hs'⟩ : ∃ i, i = capB 50 x.script := ⟨_, rfl⟩
            rw [← hs'] at hx1
            have HID := Lib.hid hs'
            have HXW := Lib.hid hx1
            clear hx1 e0 f0 HX0 hs'
            have hbx := HXW.out.bel
            have hcw1 := HCW.out.next hbx HCW.out.size
            have hps1 := HIN.out.below hbx
            have hos1 := HOS.out.below hbx
            have cu1 : wr.cell? ⟨w.heap.size + 1 + 1, 2, none⟩ = some (.slice ai l.length ci) := cell_at hcw1.u
            have x0 : wr.cell? ⟨wo.heap.size, 0, none⟩ = some (.int .i64 x.val) := cell_at HXW.out.x
            have x1 : wr.cell? ⟨wo.heap.size, 1, none⟩ = some (.string s') := cell_at HXW.out.x
            have hpl : l.length ≤ 1000 := by
              have := HL.out
              rw [this, List.length_map, List.length_take]
              omega
            have hsz0 := HCW.out.size
            have hsz1 := HXW.out.size
            obtain ⟨i0, hi, hz0, hz1, hz2⟩ := info_parts info_out
            obtain ⟨a3, c3, w3, hrun, hown3, hb3, hg3, hv3⟩ := append_one (P := Tryz.prog) Tryz.underlying24 hi hz0 hz1 hz2 rfl hos1.row #[.int .i64 x.val, .string s'] rfl (by simp [Value.oneCell']) (by rw [maxLen_eq]; omega) (by omega) (by omega) (ty := 24)
            clear hi hz0 hz1 hz2 i0
            have hcw3 := hcw1.next hb3 (Nat.le_refl _)
            have cu3 : w3.cell? ⟨w.heap.size + 1 + 1, 2, none⟩ = some (.slice ai l.length ci) := cell_at hcw3.u
            have fu3 : w3.frozen? ⟨w.heap.size + 1 + 1, 2, none⟩ = false := free_at hcw3.u
            have hkeep : ∀ b, b < wr.heap.size → (Value.slice ai l.length ci).ownBlock ≠ some b → w3.heap[b]? = wr.heap[b]? := fun b hb hn => by
              rw [hg3.block b (by simp; omega) (fun e => hn e.symm)]
              exact Below.heap_alloc _ _ _ hb
            have hins : InsOwn (w.heap.size + 3) w3 vi ps := hps1.kept fun b hh => hkeep b (hps1.lt hh).2 (fun e => HAP.out b e hh)
            have hcut : cutOut x = ⟨x.val, s'⟩ := by unfold cutOut; rw [HID.out]
            have hout : OutsOwn (w.heap.size + 3) w3 (.slice a3 (l.length + 1) c3) (l ++ [cutOut x]) := by
              refine ⟨?_, fun y hy => ?_⟩
              · rw [List.length_append, hcut]
                have : outsCells (l ++ [⟨x.val, s'⟩]) = outsCells l ++ [.int .i64 x.val, .string s'] := by simp [outsCells, outRow]
                rw [this]
                exact hown3
              · rcases List.mem_append.1 hy with h | h
                · exact HOS.out.ok y h
                · obtain rfl := List.mem_singleton.1 h
                  exact ⟨HOK.out.1, by unfold cutOut; exact Nat.le_trans (capB_size _ _) HOK.out.2⟩
            have hap3 : ∀ b, (Value.slice a3 (l.length + 1) c3).ownBlock = some b → ¬ InsHas vi ps b := by
              intro b e hh
              rcases hv3 with h | h
              · exact HAP.out b (h ▸ e) hh
              · have h1 := (hps1.lt hh).2
                rw [h] at e
                have := Option.some.inj e
                omega
            have HINS := Lib.hid hins
            have HOUT := Lib.hid hout
            have HAP3 := Lib.hid hap3
            have HCW3 := Lib.hid hcw3
            have HR := Lib.hid hrun
            clear hins hout hap3 hcut hkeep hcw3 hrun hown3 hb3 hg3 hv3 hcw1 hps1 hos1 hbx hpl hsz0 hsz1
            go_wp2_with (at_builtin; refine wpList_append_run rfl (.tmp 120) (.tmp 122) 24 24 rfl rfl rfl HR.out ?_)
            go_roundg (n' - (k + 1))
            case measure => have := HGK.out; omega
            case rel =>
              have hb2 : ∀ b, InsHas vi ps b → b ≠ w.heap.size + 1 + 1 := fun b hh => by have := (HINS.out.lt hh).1; omega
              refine ⟨k + 1, .slice a3 (l.length + 1) c3, rfl, by omega, by omega, by go_num, HCW3.out.put2 _, HINS.out.store _ _ (fun hh => hb2 _ hh rfl), ?_, HAP3.out⟩
              have hl2 : (outs.take (k + 1)).map cutOut = l ++ [cutOut x] := by rw [take_snoc HX.out, List.map_append, ← HL.out]; rfl
              rw [hl2]
              refine HOUT.out.kept fun b e => Below.heap_setCell _ _ _ _ ?_
              have := (HOUT.out.row.lt b e).1
              dsimp only
              omega
        · have hfin : (outs.take k) = outs.take most := take_enough (by rw [← HN'.out]; exact hkn) hkm (by rw [← HN'.out]; exact hlt)
          have HFIN := Lib.hid hfin
          clear hfin
          have hcase : ¬ k < n' ∨ (k < n' ∧ ¬ k < most) := by omega
          clear hlt
          rcases hcase with h1 | ⟨h1, h2⟩
          all_goals
            go_wp2_with fail
            go_meet
            exact ⟨_, HCW.out, HIN.out, by rw [← HFIN.out, ← HL.out]; exact HOS.out, HAP.out⟩
    case rest =>
      obtain ⟨vo, hcw, hins, hout, hap⟩ := hcut
      obtain ⟨ai, ci, rfl, -, -⟩ := ownsRow_shape hins.row
      obtain ⟨ao, co, rfl, -, -⟩ := ownsRow_shape hout.row
      rename World => wz
      have u0 : wz.cell? ⟨w.heap.size + 1 + 1, 0, none⟩ = some (.int .u32 ver) := cell_at hcw.u
      have u1 : wz.cell? ⟨w.heap.size + 1 + 1, 1, none⟩ = some (.slice ai ps.length ci) := cell_at hcw.u
      have u2 : wz.cell? ⟨w.heap.size + 1 + 1, 2, none⟩ = some (.slice ao ((outs.take most).map cutOut).length co) := cell_at hcw.u
      have u3 : wz.cell? ⟨w.heap.size + 1 + 1, 3, none⟩ = some (.int .u32 lock) := cell_at hcw.u
      have r0 : wz.cell? ⟨w.heap.size + 1, 0, none⟩ = some (.int .u32 0) := cell_at hcw.r
      have r1 : wz.cell? ⟨w.heap.size + 1, 1, none⟩ = some (.slice none 0 0) := cell_at hcw.r
      have r2 : wz.cell? ⟨w.heap.size + 1, 2, none⟩ = some (.slice none 0 0) := cell_at hcw.r
      have r3 : wz.cell? ⟨w.heap.size + 1, 3, none⟩ = some (.int .u32 0) := cell_at hcw.r
      have f0 : wz.frozen? ⟨w.heap.size + 1, 0, none⟩ = false := free_at hcw.r
      have f1 : wz.frozen? ⟨w.heap.size + 1, 1, none⟩ = false := free_at hcw.r
      have f2 : wz.frozen? ⟨w.heap.size + 1, 2, none⟩ = false := free_at hcw.r
      have f3 : wz.frozen? ⟨w.heap.size + 1, 3, none⟩ = false := free_at hcw.r
      have HCW := Lib.hid hcw
      have HIN := Lib.hid hins
      have HOUT := Lib.hid hout
      have HAP := Lib.hid hap
      clear hcw hins hout hap HC0 HPS
      generalize hM : ((outs.take most).map cutOut).length = M at *
      have HM := Lib.hid hM
      clear hM
      go_wp2
      exact bodyPost_ret (v := .agg #[.int .u32 ver, .slice ai ps.length ci, .slice ao M co, .int .u32 lock]) (by simp [results, Tryz.results31, go_sem, r0, r1, r2, r3]) rfl
        (cut_is HIN.out HOUT.out HAP.out HPE.out HV.out (fun b hb => by
          rw [Below.heap_setCell _ _ _ _ (by dsimp only; omega), Below.heap_setCell _ _ _ _ (by dsimp only; omega), Below.heap_setCell _ _ _ _ (by dsimp only; omega), Below.heap_setCell _ _ _ _ (by dsimp only; omega)])
          ((((HCW.out.bel.setCell (by dsimp only; omega) _).setCell (by dsimp only; omega) _).setCell (by dsimp only; omega) _).setCell (by dsimp only; omega) _))
end Go.Proofs.YtelindgnkpfkiaaGreatDoor
