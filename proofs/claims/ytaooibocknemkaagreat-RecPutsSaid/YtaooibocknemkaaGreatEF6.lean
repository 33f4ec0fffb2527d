/-
  RecPuts: its walk. Conditions: none.
-/
import Derived.Test.YtaooibocknemkaaGreatQ1RecPuts
import Derived.Test.YtaooibocknemkaaGreatQ10RecPuts
import Derived.Test.YtaooibocknemkaaGreatEF5
import Derived.Test.YtaooibocknemkaaGreatQ13RecPuts
import Derived.Test.YtaooibocknemkaaGreatRegs
namespace Go.Proofs.YtaooibocknemkaaGreat
open Go.RowKit Go.BigFrame
open Go.Lib (hid)
set_option linter.unusedVariables false
set_option linter.unusedSimpArgs false
abbrev sV (z : PSml) (a b c d : Value) : Value := .agg #[.int .u8 z.kind, .int .u8 z.num, .int .u32 z.tx.ver, a, b, .int .u32 z.tx.lock, .int .u8 z.index, .int .u8 z.br, .int .u16 z.tag, .int .u16 z.delay, .int .u32 z.height, .int .u8 z.point, .int .u32 z.val, .int .u32 z.budget, .int .u32 z.fee, .int .u16 z.dead, .int .u16 z.start, .int .i64 z.raw.kind, .int .i64 z.raw.num, .int .u32 z.raw.tx.ver, c, d, .int .u32 z.raw.tx.lock, .int .i64 z.raw.index, .string z.raw.id, .int .u32 z.raw.idx, .int .i64 z.raw.val, .int .i64 z.raw.br, .int .u16 z.raw.tag, .int .u16 z.raw.delay, .int .u32 z.raw.height, .int .i64 z.raw.dead, .int .i64 z.raw.budget, .int .i64 z.raw.start, .int .i64 z.raw.fee, .bool z.odd]
abbrev rV (r : PRec) (a b : Value) : Value := .agg #[.int .i64 r.kind, .int .i64 r.num, .int .u32 r.tx.ver, a, b, .int .u32 r.tx.lock, .int .i64 r.index, .string r.id, .int .u32 r.idx, .int .i64 r.val, .int .i64 r.br, .int .u16 r.tag, .int .u16 r.delay, .int .u32 r.height, .int .i64 r.dead, .int .i64 r.budget, .int .i64 r.start, .int .i64 r.fee]
def MkV (v : Value) (lo hi : Nat) (w : World) : Prop := ∃ (r : PRec) (ia : Option Addr) (ic : Nat) (oa : Option Addr) (oc : Nat), v = .agg #[.int .i64 r.kind, .int .i64 r.num, .int .u32 r.tx.ver, .slice ia r.tx.ins.length ic, .slice oa r.tx.outs.length oc, .int .u32 r.tx.lock, .int .i64 r.index, .string r.id, .int .u32 r.idx, .int .i64 r.val, .int .i64 r.br, .int .u16 r.tag, .int .u16 r.delay, .int .u32 r.height, .int .i64 r.dead, .int .i64 r.budget, .int .i64 r.start, .int .i64 r.fee] ∧ r.tx.outs.length ≤ 1000 ∧ ∀ w' : World, (∀ b, lo ≤ b → b < hi → w'.heap[b]? = w.heap[b]?) → RecOwn lo w' v r
theorem MkV.mono {v : Value} {lo hi : Nat} {w w' : World} (hk : ∀ b, lo ≤ b → b < hi → w'.heap[b]? = w.heap[b]?) (h : MkV v lo hi w) : MkV v lo hi w' := by
  obtain ⟨t, ia, ic, oa, oc, h1, h2, h3⟩ := h
  exact ⟨t, ia, ic, oa, oc, h1, h2, fun w2 hw2 => h3 w2 fun b h3 h4 => (hw2 b h3 h4).trans (hk b h3 h4)⟩
theorem MkV.of {w w' : World} {v : Value} {r : PRec} (h : RecOwn w.heap.size w' v r) (hf : r.tx.outs.length ≤ 1000) : MkV v w.heap.size w'.heap.size w' := by
  obtain ⟨va, vb, rfl, hto, hk⟩ := h
  obtain ⟨ia, ic, rfl, -, -⟩ := hto.at_.1.shape
  obtain ⟨oa, oc, rfl, -, -⟩ := hto.at_.2.shape
  exact ⟨r, ia, ic, oa, oc, rfl, hf, fun w2 hw2 => ⟨_, _, rfl, hto.tell w2 hw2, hk⟩⟩
def SFact.mkv : SFact := ⟨fun v _ lo hi w => MkV v lo hi w, MkV.mono⟩
def RP7 (v0 v2 : Value) : Prop → Nat → SFact
  | _, 0 => .val fun _ => v0
  | _, 1 => .mkv
  | _, 2 => .val fun _ => v2
  | _, 3 => .mkv
  | p, 4 => .made p (.cells #[.int .i64 0, .int .i64 0, .int .u32 0, .slice none 0 0, .slice none 0 0, .int .u32 0, .int .i64 0, .string ⟨#[]⟩, .int .u32 0, .int .i64 0, .int .i64 0, .int .u16 0, .int .u16 0, .int .u32 0, .int .i64 0, .int .i64 0, .int .i64 0, .int .i64 0] 35 (0, 0))
  | _, 5 => .box fun _ => .cells #[.int .i64 0, .int .i64 0, .int .u32 0, .slice none 0 0, .slice none 0 0, .int .u32 0, .int .i64 0, .string ⟨#[]⟩, .int .u32 0, .int .i64 0, .int .i64 0, .int .u16 0, .int .u16 0, .int .u32 0, .int .i64 0, .int .i64 0, .int .i64 0, .int .i64 0] 35 (0, 0)
  | _, 6 => .stored 35
  | _, _ => .any
structure PutS (base B1 B2 S V U : Nat) (row row2 : Array Value) (r q : PRec) (w0 w : World) : Prop where
  bel : Below base w0 w
  s : w.heap[S]? = some (.cells (row ++ row2) 35 (0, 0))
  v : w.heap[V]? = some (.cells row 35 (0, 0))
  u : w.heap[U]? = some (.cells row2 35 (0, 0))
  hr : RecOwn B1 w (.agg row) r
  hq : RecOwn B2 w (.agg row2) q
theorem PutS.el1 {base B1 B2 S V U : Nat} {row row2 : Array Value} {r q : PRec} {w0 w : World} (h : PutS base B1 B2 S V U row row2 r q w0 w) : w.rangeAt S 0 row.toList :=
  range_of (w := w) (b := S) (t := 35) [] row.toList row2.toList (by
    have e : (([] : List Value) ++ (row.toList ++ row2.toList)).toArray = row ++ row2 := Array.ext' (by simp)
    rw [e]; exact h.s)
theorem PutS.el2 {base B1 B2 S V U : Nat} {row row2 : Array Value} {r q : PRec} {w0 w : World} (h : PutS base B1 B2 S V U row row2 r q w0 w) (hn : row.size = 18) : w.rangeAt S 18 row2.toList := by
  have := range_of (w := w) (b := S) (t := 35) row.toList row2.toList [] (by
    have e : (row.toList ++ (row2.toList ++ [])).toArray = row ++ row2 := Array.ext' (by simp)
    rw [e]; exact h.s)
  rw [Array.length_toList, hn] at this
  exact this
theorem PutS.below {base B1 B2 S V U : Nat} {row row2 : Array Value} {r q : PRec} {w0 w w' : World} (h : PutS base B1 B2 S V U row row2 r q w0 w) (hs : base ≤ w.heap.size) (hb : Below w.heap.size w w') : PutS base B1 B2 S V U row row2 r q w0 w' :=
  ⟨h.bel.trans (hb.mono hs), stay h.s hb, stay h.v hb, stay h.u hb, h.hr.below hb, h.hq.below hb⟩
set_option maxRecDepth 100000 in
set_option maxHeartbeats 16000000 in
theorem recPuts_walk (v0 : Value) (y : PSml) (v1 : Value) (z : PSml) (w : World) (h0 : SmlV w v0 y) (h1 : SmlV w v1 z) : Calls Tryz.prog 3 #[v0, v1] w (fun e w' => e = .returned (.bool true) ∧ Below w.heap.size w w') := by
  have HS0 := hid h0
  have HS1 := hid h1
  obtain ⟨va, vb, vc, vd, rfl, g1, g2, g3, g4, gk⟩ := h0
  obtain ⟨xa, xc, rfl, -, -⟩ := g1.shape
  obtain ⟨ya, yc, rfl, -, -⟩ := g2.shape
  obtain ⟨za, zc, rfl, -, -⟩ := g3.shape
  obtain ⟨ta, tc, rfl, -, -⟩ := g4.shape
  obtain ⟨k1, hk1⟩ : ∃ n, n = y.tx.ins.length := ⟨_, rfl⟩
  obtain ⟨k2, hk2⟩ : ∃ n, n = y.tx.outs.length := ⟨_, rfl⟩
  obtain ⟨k3, hk3⟩ : ∃ n, n = y.raw.tx.ins.length := ⟨_, rfl⟩
  obtain ⟨k4, hk4⟩ : ∃ n, n = y.raw.tx.outs.length := ⟨_, rfl⟩
  rw [← hk1, ← hk2, ← hk3, ← hk4] at HS0
  rw [← hk1, ← hk2, ← hk3, ← hk4]
  clear hk1 hk2 hk3 hk4 g1 g2 g3 g4 gk
  obtain ⟨va, vb, vc, vd, rfl, g1, g2, g3, g4, gk⟩ := h1
  obtain ⟨xa', xc', rfl, -, -⟩ := g1.shape
  obtain ⟨ya', yc', rfl, -, -⟩ := g2.shape
  obtain ⟨za', zc', rfl, -, -⟩ := g3.shape
  obtain ⟨ta', tc', rfl, -, -⟩ := g4.shape
  obtain ⟨k1', hk1⟩ : ∃ n, n = z.tx.ins.length := ⟨_, rfl⟩
  obtain ⟨k2', hk2⟩ : ∃ n, n = z.tx.outs.length := ⟨_, rfl⟩
  obtain ⟨k3', hk3⟩ : ∃ n, n = z.raw.tx.ins.length := ⟨_, rfl⟩
  obtain ⟨k4', hk4⟩ : ∃ n, n = z.raw.tx.outs.length := ⟨_, rfl⟩
  rw [← hk1, ← hk2, ← hk3, ← hk4] at HS1
  rw [← hk1, ← hk2, ← hk3, ← hk4]
  clear hk1 hk2 hk3 hk4 g1 g2 g3 g4 gk
  unfold smlCells at HS0 HS1 ⊢
  go_enter Tryz.func3, Tryz.ntmps3
  go_upto_region 1 with fail
  obtain ⟨X, hX⟩ : ∃ q, q = w.heap.size := ⟨_, rfl⟩
  have hnews := new2 w X hX (.cells #[.int .u8 y.kind, .int .u8 y.num, .int .u32 y.tx.ver, .slice xa k1 xc, .slice ya k2 yc, .int .u32 y.tx.lock, .int .u8 y.index, .int .u8 y.br, .int .u16 y.tag, .int .u16 y.delay, .int .u32 y.height, .int .u8 y.point, .int .u32 y.val, .int .u32 y.budget, .int .u32 y.fee, .int .u16 y.dead, .int .u16 y.start, .int .i64 y.raw.kind, .int .i64 y.raw.num, .int .u32 y.raw.tx.ver, .slice za k3 zc, .slice ta k4 tc, .int .u32 y.raw.tx.lock, .int .i64 y.raw.index, .string y.raw.id, .int .u32 y.raw.idx, .int .i64 y.raw.val, .int .i64 y.raw.br, .int .u16 y.raw.tag, .int .u16 y.raw.delay, .int .u32 y.raw.height, .int .i64 y.raw.dead, .int .i64 y.raw.budget, .int .i64 y.raw.start, .int .i64 y.raw.fee, .bool y.odd] 37) (.cells #[.int .u8 z.kind, .int .u8 z.num, .int .u32 z.tx.ver, .slice xa' k1' xc', .slice ya' k2' yc', .int .u32 z.tx.lock, .int .u8 z.index, .int .u8 z.br, .int .u16 z.tag, .int .u16 z.delay, .int .u32 z.height, .int .u8 z.point, .int .u32 z.val, .int .u32 z.budget, .int .u32 z.fee, .int .u16 z.dead, .int .u16 z.start, .int .i64 z.raw.kind, .int .i64 z.raw.num, .int .u32 z.raw.tx.ver, .slice za' k3' zc', .slice ta' k4' tc', .int .u32 z.raw.tx.lock, .int .i64 z.raw.index, .string z.raw.id, .int .u32 z.raw.idx, .int .i64 z.raw.val, .int .i64 z.raw.br, .int .u16 z.raw.tag, .int .u16 z.raw.delay, .int .u32 z.raw.height, .int .i64 z.raw.dead, .int .i64 z.raw.budget, .int .i64 z.raw.start, .int .i64 z.raw.fee, .bool z.odd] 37)
  rw [← hX]
  generalize ((w.alloc (.cells #[.int .u8 y.kind, .int .u8 y.num, .int .u32 y.tx.ver, .slice xa k1 xc, .slice ya k2 yc, .int .u32 y.tx.lock, .int .u8 y.index, .int .u8 y.br, .int .u16 y.tag, .int .u16 y.delay, .int .u32 y.height, .int .u8 y.point, .int .u32 y.val, .int .u32 y.budget, .int .u32 y.fee, .int .u16 y.dead, .int .u16 y.start, .int .i64 y.raw.kind, .int .i64 y.raw.num, .int .u32 y.raw.tx.ver, .slice za k3 zc, .slice ta k4 tc, .int .u32 y.raw.tx.lock, .int .i64 y.raw.index, .string y.raw.id, .int .u32 y.raw.idx, .int .i64 y.raw.val, .int .i64 y.raw.br, .int .u16 y.raw.tag, .int .u16 y.raw.delay, .int .u32 y.raw.height, .int .i64 y.raw.dead, .int .i64 y.raw.budget, .int .i64 y.raw.start, .int .i64 y.raw.fee, .bool y.odd] 37)).alloc (.cells #[.int .u8 z.kind, .int .u8 z.num, .int .u32 z.tx.ver, .slice xa' k1' xc', .slice ya' k2' yc', .int .u32 z.tx.lock, .int .u8 z.index, .int .u8 z.br, .int .u16 z.tag, .int .u16 z.delay, .int .u32 z.height, .int .u8 z.point, .int .u32 z.val, .int .u32 z.budget, .int .u32 z.fee, .int .u16 z.dead, .int .u16 z.start, .int .i64 z.raw.kind, .int .i64 z.raw.num, .int .u32 z.raw.tx.ver, .slice za' k3' zc', .slice ta' k4' tc', .int .u32 z.raw.tx.lock, .int .i64 z.raw.index, .string z.raw.id, .int .u32 z.raw.idx, .int .i64 z.raw.val, .int .i64 z.raw.br, .int .u16 z.raw.tag, .int .u16 z.raw.delay, .int .u32 z.raw.height, .int .i64 z.raw.dead, .int .i64 z.raw.budget, .int .i64 z.raw.start, .int .i64 z.raw.fee, .bool z.odd] 37)) = w0 at *
  obtain ⟨hz0, hz1, hal⟩ := hnews
  have HZ0 := hid hz0
  have HZ1 := hid hz1
  have HB := hid hal
  have HX := hid hX
  have HS0 := hid (HS0.out.below hal)
  have HS1 := hid (HS1.out.below hal)
  clear hz0 hz1 hal hX
  refine wp_region_stored (RP7 (sV y (.slice xa k1 xc) (.slice ya k2 yc) (.slice za k3 zc) (.slice ta k4 tc)) (sV z (.slice xa' k1' xc') (.slice ya' k2' yc') (.slice za' k3' zc') (.slice ta' k4' tc'))) 7 6 4 (by kernel_rfl) (by kernel_rfl) (by kernel_rfl) (by kernel_rfl) (by decide) (by kernel_rfl) (by decide) (by intro j hj v d lo hi w h; match j, hj, h with | 0, hj, h => exact h | 1, hj, h => exact h | 2, hj, h => exact h | 3, hj, h => exact h | 4, hj, h => exact absurd rfl hj | 5, hj, h => exact h | 6, hj, h => exact h | q + 7, hj, h => exact h) ?_ ?_
  · intro i o hi ho L xs lo hi' wr hmd hni hpre
    obtain ⟨x0, x1, x2, x3, x4, x5, x6, rfl⟩ : ∃ x0 x1 x2 x3 x4 x5 x6, xs = [x0, x1, x2, x3, x4, x5, x6] := by match xs, hmd.len with | [x0, x1, x2, x3, x4, x5, x6], _ => exact ⟨_, _, _, _, _, _, _, rfl⟩
    match i, ho with
    | 0, ho =>
      obtain rfl := Option.some.inj ho
      have kk := fun lx ox ax => sstep_pure (P := Tryz.prog) (R := RP7 (sV y (.slice xa k1 xc) (.slice ya k2 yc) (.slice za k3 zc) (.slice ta k4 tc)) (sV z (.slice xa' k1' xc') (.slice ya' k2' yc') (.slice za' k3' zc') (.slice ta' k4' tc'))) (s := 6) (l := lx) (w0 := w0) (L := L) (xs := [x0, x1, x2, x3, x4, x5, x6]) (lo := lo) (hi := hi') (o := ox) (a := ax) (w := wr) (i := 0) (k := 4) (by decide) (sV y (.slice xa k1 xc) (.slice ya k2 yc) (.slice za k3 zc) (.slice ta k4 tc))
      refine kk _ _ _ ?_ ?_
      · exact exec_load_row 37 (.tmp 2) rfl X (by kernel_rfl) 37 _ (0, 0) _ (stay HZ0.out hmd.bel) Tryz.underlying37 rfl (by kernel_rfl)
      · exact rfl
    | 1, ho =>
      obtain rfl := Option.some.inj ho
      have h_0 : x0 = sV y (.slice xa k1 xc) (.slice ya k2 yc) (.slice za k3 zc) (.slice ta k4 tc) := hmd.rel 0 (hpre 0 (by kernel_rfl))
      subst h_0
      have kk := fun lx ox ax => sstep_call (P := Tryz.prog) (R := RP7 (sV y (.slice xa k1 xc) (.slice ya k2 yc) (.slice za k3 zc) (.slice ta k4 tc)) (sV z (.slice xa' k1' xc') (.slice ya' k2' yc') (.slice za' k3' zc') (.slice ta' k4' tc'))) (s := 6) (l := lx) (w0 := w0) (L := L) (xs := [(sV y (.slice xa k1 xc) (.slice ya k2 yc) (.slice za k3 zc) (.slice ta k4 tc)), x1, x2, x3, x4, x5, x6]) (lo := lo) (hi := hi') (o := ox) (a := ax) (w := wr) (i := 1) (k := 4) (by decide) (rmake_any _ y wr (HS0.out.below hmd.bel))
      refine kk _ _ _ ?_ ?_
      · kernel_rfl
      · exact fun e w' ⟨v, r, he, hr, ho, hb⟩ => ⟨v, he, hb, MkV.of hr ho⟩
    | 2, ho =>
      obtain rfl := Option.some.inj ho
      have kk := fun lx ox ax => sstep_pure (P := Tryz.prog) (R := RP7 (sV y (.slice xa k1 xc) (.slice ya k2 yc) (.slice za k3 zc) (.slice ta k4 tc)) (sV z (.slice xa' k1' xc') (.slice ya' k2' yc') (.slice za' k3' zc') (.slice ta' k4' tc'))) (s := 6) (l := lx) (w0 := w0) (L := L) (xs := [x0, x1, x2, x3, x4, x5, x6]) (lo := lo) (hi := hi') (o := ox) (a := ax) (w := wr) (i := 2) (k := 4) (by decide) (sV z (.slice xa' k1' xc') (.slice ya' k2' yc') (.slice za' k3' zc') (.slice ta' k4' tc'))
      refine kk _ _ _ ?_ ?_
      · exact exec_load_row 37 (.tmp 3) rfl (X + 1) (by kernel_rfl) 37 _ (0, 0) _ (stay HZ1.out hmd.bel) Tryz.underlying37 rfl (by kernel_rfl)
      · exact rfl
    | 3, ho =>
      obtain rfl := Option.some.inj ho
      have h_2 : x2 = sV z (.slice xa' k1' xc') (.slice ya' k2' yc') (.slice za' k3' zc') (.slice ta' k4' tc') := hmd.rel 2 (hpre 2 (by kernel_rfl))
      subst h_2
      have kk := fun lx ox ax => sstep_call (P := Tryz.prog) (R := RP7 (sV y (.slice xa k1 xc) (.slice ya k2 yc) (.slice za k3 zc) (.slice ta k4 tc)) (sV z (.slice xa' k1' xc') (.slice ya' k2' yc') (.slice za' k3' zc') (.slice ta' k4' tc'))) (s := 6) (l := lx) (w0 := w0) (L := L) (xs := [x0, x1, (sV z (.slice xa' k1' xc') (.slice ya' k2' yc') (.slice za' k3' zc') (.slice ta' k4' tc')), x3, x4, x5, x6]) (lo := lo) (hi := hi') (o := ox) (a := ax) (w := wr) (i := 3) (k := 4) (by decide) (rmake_any _ z wr (HS1.out.below hmd.bel))
      refine kk _ _ _ ?_ ?_
      · kernel_rfl
      · exact fun e w' ⟨v, r, he, hr, ho, hb⟩ => ⟨v, he, hb, MkV.of hr ho⟩
    | 4, ho =>
      obtain rfl := Option.some.inj ho
      have kk := fun lx ox ax => sstep_new (P := Tryz.prog) (R := RP7 (sV y (.slice xa k1 xc) (.slice ya k2 yc) (.slice za k3 zc) (.slice ta k4 tc)) (sV z (.slice xa' k1' xc') (.slice ya' k2' yc') (.slice za' k3' zc') (.slice ta' k4' tc'))) (s := 6) (l := lx) (w0 := w0) (L := L) (xs := [x0, x1, x2, x3, x4, x5, x6]) (lo := lo) (hi := hi') (o := ox) (a := ax) (w := wr) (i := 4) (k := 4) (by decide) (.pointer (some ⟨wr.heap.size, 0, none⟩)) (.cells #[.int .i64 0, .int .i64 0, .int .u32 0, .slice none 0 0, .slice none 0 0, .int .u32 0, .int .i64 0, .string ⟨#[]⟩, .int .u32 0, .int .i64 0, .int .i64 0, .int .u16 0, .int .u16 0, .int .u32 0, .int .i64 0, .int .i64 0, .int .i64 0, .int .i64 0] 35)
      refine kk _ _ _ ?_ ?_
      · kernel_rfl
      · exact ⟨_, Nat.le_refl _, rfl, fun _ => ⟨by simp, heap_alloc_new wr _⟩⟩
    | 5, ho =>
      obtain rfl := Option.some.inj ho
      have kk := fun lx ox ax => sstep_new (P := Tryz.prog) (R := RP7 (sV y (.slice xa k1 xc) (.slice ya k2 yc) (.slice za k3 zc) (.slice ta k4 tc)) (sV z (.slice xa' k1' xc') (.slice ya' k2' yc') (.slice za' k3' zc') (.slice ta' k4' tc'))) (s := 6) (l := lx) (w0 := w0) (L := L) (xs := [x0, x1, x2, x3, x4, x5, x6]) (lo := lo) (hi := hi') (o := ox) (a := ax) (w := wr) (i := 5) (k := 4) (by decide) (.pointer (some ⟨wr.heap.size, 0, none⟩)) (.cells #[.int .i64 0, .int .i64 0, .int .u32 0, .slice none 0 0, .slice none 0 0, .int .u32 0, .int .i64 0, .string ⟨#[]⟩, .int .u32 0, .int .i64 0, .int .i64 0, .int .u16 0, .int .u16 0, .int .u32 0, .int .i64 0, .int .i64 0, .int .i64 0, .int .i64 0] 35)
      refine kk _ _ _ ?_ ?_
      · kernel_rfl
      · exact ⟨_, Nat.le_refl _, by simp, rfl, heap_alloc_new wr _⟩
    | 6, ho =>
      obtain rfl := Option.some.inj ho
      have l1 : L 1 := hpre 1 (by kernel_rfl)
      have r4 : ∃ b, lo 4 ≤ b ∧ x4 = .pointer (some ⟨b, 0, none⟩) ∧ (¬ L 6 → b < hi' 4 ∧ wr.heap[b]? = some (.cells #[.int .i64 0, .int .i64 0, .int .u32 0, .slice none 0 0, .slice none 0 0, .int .u32 0, .int .i64 0, .string ⟨#[]⟩, .int .u32 0, .int .i64 0, .int .i64 0, .int .u16 0, .int .u16 0, .int .u32 0, .int .i64 0, .int .i64 0, .int .i64 0, .int .i64 0] 35 (0, 0))) := hmd.rel 4 (hpre 4 (by kernel_rfl))
      have r1 : MkV x1 (lo 1) (hi' 1) wr := hmd.rel 1 l1
      cases r1 with
      | intro r r1 =>
      cases r1 with
      | intro ia r1 =>
      cases r1 with
      | intro ic r1 =>
      cases r1 with
      | intro oa r1 =>
      cases r1 with
      | intro oc r1 =>
      cases r1 with
      | intro r1 _ =>
      cases r1
      cases r4 with
      | intro bk h16 =>
      cases h16 with
      | intro _ h16 =>
      cases h16 with
      | intro h16 _ =>
      cases h16
      have kk2 := fun lx ox ax => sstep_row (P := Tryz.prog) (R := RP7 (sV y (.slice xa k1 xc) (.slice ya k2 yc) (.slice za k3 zc) (.slice ta k4 tc)) (sV z (.slice xa' k1' xc') (.slice ya' k2' yc') (.slice za' k3' zc') (.slice ta' k4' tc'))) (s := 6) (l := lx) (n := 7) (w0 := w0) (L := L) (xs := [x0, (.agg #[.int .i64 r.kind, .int .i64 r.num, .int .u32 r.tx.ver, .slice ia r.tx.ins.length ic, .slice oa r.tx.outs.length oc, .int .u32 r.tx.lock, .int .i64 r.index, .string r.id, .int .u32 r.idx, .int .i64 r.val, .int .i64 r.br, .int .u16 r.tag, .int .u16 r.delay, .int .u32 r.height, .int .i64 r.dead, .int .i64 r.budget, .int .i64 r.start, .int .i64 r.fee]), x2, x3, (.pointer (some ⟨bk, 0, none⟩)), x5, x6]) (lo := lo) (hi := hi') (o := ox) (a := ax) (w := wr) (k := 4) (35) (.tmp 5) (.tmp 13) (35) #[.int .i64 0, .int .i64 0, .int .u32 0, .slice none 0 0, .slice none 0 0, .int .u32 0, .int .i64 0, .string ⟨#[]⟩, .int .u32 0, .int .i64 0, .int .i64 0, .int .u16 0, .int .u16 0, .int .u32 0, .int .i64 0, .int .i64 0, .int .i64 0, .int .i64 0] #[.int .i64 r.kind, .int .i64 r.num, .int .u32 r.tx.ver, .slice ia r.tx.ins.length ic, .slice oa r.tx.outs.length oc, .int .u32 r.tx.lock, .int .i64 r.index, .string r.id, .int .u32 r.idx, .int .i64 r.val, .int .i64 r.br, .int .u16 r.tag, .int .u16 r.delay, .int .u32 r.height, .int .i64 r.dead, .int .i64 r.budget, .int .i64 r.start, .int .i64 r.fee] bk
      refine kk2 _ _ _ ?_ ?_ ?_ ?_ ?_ ?_ ?_ ?_ ?_ ?_ ?_ ?_ ?_ ?_ ?_
      · exact rfl
      · exact rfl
      · exact rfl
      · exact hmd
      · exact hni
      · exact hpre 4 (by kernel_rfl)
      · rfl
      · rfl
      · kernel_rfl
      · kernel_rfl
      · kernel_rfl
      · rfl
      · kernel_rfl
      · kernel_rfl
      · kernel_rfl
    | q + 7, ho => omega
  · intro xs lo hi wr hmd
    obtain ⟨x0, x1, x2, x3, x4, x5, x6, rfl⟩ : ∃ x0 x1 x2 x3 x4 x5 x6, xs = [x0, x1, x2, x3, x4, x5, x6] := by match xs, hmd.len with | [x0, x1, x2, x3, x4, x5, x6], _ => exact ⟨_, _, _, _, _, _, _, rfl⟩
    simp only [putAll]
    change wpList _ _ _ (_ :: []) _ _
    have r1 : MkV x1 (lo 1) (hi 1) wr := hmd.rel 1 (by decide)
    have r3 : MkV x3 (lo 3) (hi 3) wr := hmd.rel 3 (by decide)
    have r5 : ∃ b, lo 5 ≤ b ∧ b < hi 5 ∧ x5 = .pointer (some ⟨b, 0, none⟩) ∧ wr.heap[b]? = some (.cells #[.int .i64 0, .int .i64 0, .int .u32 0, .slice none 0 0, .slice none 0 0, .int .u32 0, .int .i64 0, .string ⟨#[]⟩, .int .u32 0, .int .i64 0, .int .i64 0, .int .u16 0, .int .u16 0, .int .u32 0, .int .i64 0, .int .i64 0, .int .i64 0, .int .i64 0] 35 (0, 0)) := hmd.rel 5 (by decide)
    have r6 := hmd.st (show 6 < 7 by decide) (x := x4) (y := x1) (t := 35) rfl (by kernel_rfl) (by kernel_rfl)
    have hap15 := hmd.apart 1 5 (by decide) (by decide) (by decide)
    have hap35 := hmd.apart 3 5 (by decide) (by decide) (by decide)
    have hap56 := hmd.apart 5 6 (by decide) (by decide) (by decide)
    have hlh5 := hmd.lohi 5 (by decide)
    have hlh6 := hmd.lohi 6 (by decide)
    have hbel := hmd.bel
    obtain rfl : x0 = sV y (.slice xa k1 xc) (.slice ya k2 yc) (.slice za k3 zc) (.slice ta k4 tc) := hmd.rel 0 (by decide)
    obtain rfl : x2 = sV z (.slice xa' k1' xc') (.slice ya' k2' yc') (.slice za' k3' zc') (.slice ta' k4' tc') := hmd.rel 2 (by decide)
    clear hmd
    obtain ⟨V, csV, hloV, hhiV, h4, h1', gV⟩ := r6
    obtain ⟨U, hloU, hhiU, h5, gU⟩ := r5
    obtain ⟨r, ia, ic, oa, oc, h1, hor, htr⟩ := r1
    obtain ⟨q, ja, jc, qa, qc, h3, hoq, htq⟩ := r3
    subst h4
    subst h5
    subst h1
    subst h3
    obtain rfl : csV = #[.int .i64 r.kind, .int .i64 r.num, .int .u32 r.tx.ver, .slice ia r.tx.ins.length ic, .slice oa r.tx.outs.length oc, .int .u32 r.tx.lock, .int .i64 r.index, .string r.id, .int .u32 r.idx, .int .i64 r.val, .int .i64 r.br, .int .u16 r.tag, .int .u16 r.delay, .int .u32 r.height, .int .i64 r.dead, .int .i64 r.budget, .int .i64 r.start, .int .i64 r.fee] := by injection h1' with e; exact e.symm
    have hUV : U ≠ V := by omega
    have hfu := Fr.row (F := [U]) wr U #[.int .i64 q.kind, .int .i64 q.num, .int .u32 q.tx.ver, .slice ja q.tx.ins.length jc, .slice qa q.tx.outs.length qc, .int .u32 q.tx.lock, .int .i64 q.index, .string q.id, .int .u32 q.idx, .int .i64 q.val, .int .i64 q.br, .int .u16 q.tag, .int .u16 q.delay, .int .u32 q.height, .int .i64 q.dead, .int .i64 q.budget, .int .i64 q.start, .int .i64 q.fee] (by simp)
    have hoth : ∀ b, b ≠ U → (wr.setRow U #[.int .i64 q.kind, .int .i64 q.num, .int .u32 q.tx.ver, .slice ja q.tx.ins.length jc, .slice qa q.tx.outs.length qc, .int .u32 q.tx.lock, .int .i64 q.index, .string q.id, .int .u32 q.idx, .int .i64 q.val, .int .i64 q.br, .int .u16 q.tag, .int .u16 q.delay, .int .u32 q.height, .int .i64 q.dead, .int .i64 q.budget, .int .i64 q.start, .int .i64 q.fee]).heap[b]? = wr.heap[b]? := fun b hb => by simp [World.setRow, Array.getElem?_modify, Ne.symm hb]
    have HRr := hid (htr (wr.setRow U #[.int .i64 q.kind, .int .i64 q.num, .int .u32 q.tx.ver, .slice ja q.tx.ins.length jc, .slice qa q.tx.outs.length qc, .int .u32 q.tx.lock, .int .i64 q.index, .string q.id, .int .u32 q.idx, .int .i64 q.val, .int .i64 q.br, .int .u16 q.tag, .int .u16 q.delay, .int .u32 q.height, .int .i64 q.dead, .int .i64 q.budget, .int .i64 q.start, .int .i64 q.fee]) (fun b h1 h2 => hoth b (by omega)))
    have HRq := hid (htq (wr.setRow U #[.int .i64 q.kind, .int .i64 q.num, .int .u32 q.tx.ver, .slice ja q.tx.ins.length jc, .slice qa q.tx.outs.length qc, .int .u32 q.tx.lock, .int .i64 q.index, .string q.id, .int .u32 q.idx, .int .i64 q.val, .int .i64 q.br, .int .u16 q.tag, .int .u16 q.delay, .int .u32 q.height, .int .i64 q.dead, .int .i64 q.budget, .int .i64 q.start, .int .i64 q.fee]) (fun b h1 h2 => hoth b (by omega)))
    have HVV := hid ((hoth V (Ne.symm hUV)).trans gV)
    have HUU := hid (setRow_heap wr U _ #[.int .i64 q.kind, .int .i64 q.num, .int .u32 q.tx.ver, .slice ja q.tx.ins.length jc, .slice qa q.tx.outs.length qc, .int .u32 q.tx.lock, .int .i64 q.index, .string q.id, .int .u32 q.idx, .int .i64 q.val, .int .i64 q.br, .int .u16 q.tag, .int .u16 q.delay, .int .u32 q.height, .int .i64 q.dead, .int .i64 q.budget, .int .i64 q.start, .int .i64 q.fee] _ _ gU)
    have HU0 := hid gU
    have HB := hid (show Below w.heap.size w (wr.setRow U #[.int .i64 q.kind, .int .i64 q.num, .int .u32 q.tx.ver, .slice ja q.tx.ins.length jc, .slice qa q.tx.outs.length qc, .int .u32 q.tx.lock, .int .i64 q.index, .string q.id, .int .u32 q.idx, .int .i64 q.val, .int .i64 q.br, .int .u16 q.tag, .int .u16 q.delay, .int .u32 q.height, .int .i64 q.dead, .int .i64 q.budget, .int .i64 q.start, .int .i64 q.fee]) from below_rowE (HB.out.trans (hbel.mono HB.out.size)) (by have := HB.out.size; omega) _)
    have HOR := hid hor
    have HOQ := hid hoq
    clear h1' htr htq hor hoq hap15 hap35 hap56 hlh5 hlh6 hbel gV gU hloV hhiV hloU hhiU hfu hUV hoth HZ0 HZ1 HS0 HS1
    refine Eq.mpr (congrArg (fun q => wpList _ _ _ (_ :: []) q wr) (show _ = ({ tmps := #[sV y (.slice xa k1 xc) (.slice ya k2 yc) (.slice za k3 zc) (.slice ta k4 tc), sV z (.slice xa' k1' xc') (.slice ya' k2' yc') (.slice za' k3' zc') (.slice ta' k4' tc'), .pointer (some ⟨X, 0, none⟩), .pointer (some ⟨X + 1, 0, none⟩), .bool false, .pointer (some ⟨V, 0, none⟩), .pointer (some ⟨U, 0, none⟩), undef, undef, undef, undef, undef, sV y (.slice xa k1 xc) (.slice ya k2 yc) (.slice za k3 zc) (.slice ta k4 tc), .agg #[.int .i64 r.kind, .int .i64 r.num, .int .u32 r.tx.ver, .slice ia r.tx.ins.length ic, .slice oa r.tx.outs.length oc, .int .u32 r.tx.lock, .int .i64 r.index, .string r.id, .int .u32 r.idx, .int .i64 r.val, .int .i64 r.br, .int .u16 r.tag, .int .u16 r.delay, .int .u32 r.height, .int .i64 r.dead, .int .i64 r.budget, .int .i64 r.start, .int .i64 r.fee], sV z (.slice xa' k1' xc') (.slice ya' k2' yc') (.slice za' k3' zc') (.slice ta' k4' tc'), .agg #[.int .i64 q.kind, .int .i64 q.num, .int .u32 q.tx.ver, .slice ja q.tx.ins.length jc, .slice qa q.tx.outs.length qc, .int .u32 q.tx.lock, .int .i64 q.index, .string q.id, .int .u32 q.idx, .int .i64 q.val, .int .i64 q.br, .int .u16 q.tag, .int .u16 q.delay, .int .u32 q.height, .int .i64 q.dead, .int .i64 q.budget, .int .i64 q.start, .int .i64 q.fee], undef, undef, undef, undef, undef, undef, undef, undef, undef, undef, undef, undef, undef, undef, undef, undef, undef, undef, undef, undef, undef, undef, undef, undef, undef, undef, undef, undef, undef, undef, undef, undef, undef, undef, undef, undef, undef, undef, undef, undef, undef, undef, undef, undef, undef, undef, undef, undef, undef, undef, undef, undef, undef, undef, undef, undef, undef, undef, undef, undef], defers := [] } : Act) from ?hfr)) ?_
    case hfr => kernel_rfl
    refine wpList_store_row rfl 35 (.tmp 6) (.tmp 15) rfl U #[.int .i64 q.kind, .int .i64 q.num, .int .u32 q.tx.ver, .slice ja q.tx.ins.length jc, .slice qa q.tx.outs.length qc, .int .u32 q.tx.lock, .int .i64 q.index, .string q.id, .int .u32 q.idx, .int .i64 q.val, .int .i64 q.br, .int .u16 q.tag, .int .u16 q.delay, .int .u32 q.height, .int .i64 q.dead, .int .i64 q.budget, .int .i64 q.start, .int .i64 q.fee] rfl rfl 35 _ HU0.out (by kernel_rfl) rfl (by kernel_rfl) ?_
    clear HU0
    generalize wr.setRow U #[.int .i64 q.kind, .int .i64 q.num, .int .u32 q.tx.ver, .slice ja q.tx.ins.length jc, .slice qa q.tx.outs.length qc, .int .u32 q.tx.lock, .int .i64 q.index, .string q.id, .int .u32 q.idx, .int .i64 q.val, .int .i64 q.br, .int .u16 q.tag, .int .u16 q.delay, .int .u32 q.height, .int .i64 q.dead, .int .i64 q.budget, .int .i64 q.start, .int .i64 q.fee] = w1 at *
    obtain ⟨n1, hn1⟩ : ∃ n, n = r.tx.ins.length := ⟨_, rfl⟩
    obtain ⟨n2, hn2⟩ : ∃ n, n = r.tx.outs.length := ⟨_, rfl⟩
    obtain ⟨n3, hn3⟩ : ∃ n, n = q.tx.ins.length := ⟨_, rfl⟩
    obtain ⟨n4, hn4⟩ : ∃ n, n = q.tx.outs.length := ⟨_, rfl⟩
    rw [← hn1, ← hn2] at HRr HVV
    rw [← hn3, ← hn4] at HRq HUU
    rw [← hn1, ← hn2, ← hn3, ← hn4]
    clear hn1 hn2 hn3 hn4
    go_upto_region 2 with fail
    go_upto_region 3 with (first | (refine wpList_load_row rfl 35 (.tmp 5) rfl V rfl 35 _ (0, 0) _ HVV.out Tryz.underlying35 rfl (by kernel_rfl) ?_) | (refine wpList_load_row rfl 35 (.tmp 6) rfl U rfl 35 _ (0, 0) _ HUU.out Tryz.underlying35 rfl (by kernel_rfl) ?_))
    have hz := heap_alloc_new w1 (.cells #[.int .i64 r.kind, .int .i64 r.num, .int .u32 r.tx.ver, .slice ia n1 ic, .slice oa n2 oc, .int .u32 r.tx.lock, .int .i64 r.index, .string r.id, .int .u32 r.idx, .int .i64 r.val, .int .i64 r.br, .int .u16 r.tag, .int .u16 r.delay, .int .u32 r.height, .int .i64 r.dead, .int .i64 r.budget, .int .i64 r.start, .int .i64 r.fee, .int .i64 q.kind, .int .i64 q.num, .int .u32 q.tx.ver, .slice ja n3 jc, .slice qa n4 qc, .int .u32 q.tx.lock, .int .i64 q.index, .string q.id, .int .u32 q.idx, .int .i64 q.val, .int .i64 q.br, .int .u16 q.tag, .int .u16 q.delay, .int .u32 q.height, .int .i64 q.dead, .int .i64 q.budget, .int .i64 q.start, .int .i64 q.fee] 35)
    have hal : Below w1.heap.size w1 (w1.alloc (.cells #[.int .i64 r.kind, .int .i64 r.num, .int .u32 r.tx.ver, .slice ia n1 ic, .slice oa n2 oc, .int .u32 r.tx.lock, .int .i64 r.index, .string r.id, .int .u32 r.idx, .int .i64 r.val, .int .i64 r.br, .int .u16 r.tag, .int .u16 r.delay, .int .u32 r.height, .int .i64 r.dead, .int .i64 r.budget, .int .i64 r.start, .int .i64 r.fee, .int .i64 q.kind, .int .i64 q.num, .int .u32 q.tx.ver, .slice ja n3 jc, .slice qa n4 qc, .int .u32 q.tx.lock, .int .i64 q.index, .string q.id, .int .u32 q.idx, .int .i64 q.val, .int .i64 q.br, .int .u16 q.tag, .int .u16 q.delay, .int .u32 q.height, .int .i64 q.dead, .int .i64 q.budget, .int .i64 q.start, .int .i64 q.fee] 35)) := (Below.refl _ _).alloc (Nat.le_refl _) _
    obtain ⟨S, hS⟩ : ∃ q, q = w1.heap.size := ⟨_, rfl⟩
    rw [← hS] at hz ⊢
    generalize w1.alloc (.cells #[.int .i64 r.kind, .int .i64 r.num, .int .u32 r.tx.ver, .slice ia n1 ic, .slice oa n2 oc, .int .u32 r.tx.lock, .int .i64 r.index, .string r.id, .int .u32 r.idx, .int .i64 r.val, .int .i64 r.br, .int .u16 r.tag, .int .u16 r.delay, .int .u32 r.height, .int .i64 r.dead, .int .i64 r.budget, .int .i64 r.start, .int .i64 r.fee, .int .i64 q.kind, .int .i64 q.num, .int .u32 q.tx.ver, .slice ja n3 jc, .slice qa n4 qc, .int .u32 q.tx.lock, .int .i64 q.index, .string q.id, .int .u32 q.idx, .int .i64 q.val, .int .i64 q.br, .int .u16 q.tag, .int .u16 q.delay, .int .u32 q.height, .int .i64 q.dead, .int .i64 q.budget, .int .i64 q.start, .int .i64 q.fee] 35) = w2 at *
    have HP := hid (show PutS w.heap.size (lo 1) (lo 3) S V U #[.int .i64 r.kind, .int .i64 r.num, .int .u32 r.tx.ver, .slice ia n1 ic, .slice oa n2 oc, .int .u32 r.tx.lock, .int .i64 r.index, .string r.id, .int .u32 r.idx, .int .i64 r.val, .int .i64 r.br, .int .u16 r.tag, .int .u16 r.delay, .int .u32 r.height, .int .i64 r.dead, .int .i64 r.budget, .int .i64 r.start, .int .i64 r.fee] #[.int .i64 q.kind, .int .i64 q.num, .int .u32 q.tx.ver, .slice ja n3 jc, .slice qa n4 qc, .int .u32 q.tx.lock, .int .i64 q.index, .string q.id, .int .u32 q.idx, .int .i64 q.val, .int .i64 q.br, .int .u16 q.tag, .int .u16 q.delay, .int .u32 q.height, .int .i64 q.dead, .int .i64 q.budget, .int .i64 q.start, .int .i64 q.fee] r q w w2 from ⟨HB.out.trans (hal.mono HB.out.size), (by rw [show (#[.int .i64 r.kind, .int .i64 r.num, .int .u32 r.tx.ver, .slice ia n1 ic, .slice oa n2 oc, .int .u32 r.tx.lock, .int .i64 r.index, .string r.id, .int .u32 r.idx, .int .i64 r.val, .int .i64 r.br, .int .u16 r.tag, .int .u16 r.delay, .int .u32 r.height, .int .i64 r.dead, .int .i64 r.budget, .int .i64 r.start, .int .i64 r.fee] ++ #[.int .i64 q.kind, .int .i64 q.num, .int .u32 q.tx.ver, .slice ja n3 jc, .slice qa n4 qc, .int .u32 q.tx.lock, .int .i64 q.index, .string q.id, .int .u32 q.idx, .int .i64 q.val, .int .i64 q.br, .int .u16 q.tag, .int .u16 q.delay, .int .u32 q.height, .int .i64 q.dead, .int .i64 q.budget, .int .i64 q.start, .int .i64 q.fee] : Array Value) = #[.int .i64 r.kind, .int .i64 r.num, .int .u32 r.tx.ver, .slice ia n1 ic, .slice oa n2 oc, .int .u32 r.tx.lock, .int .i64 r.index, .string r.id, .int .u32 r.idx, .int .i64 r.val, .int .i64 r.br, .int .u16 r.tag, .int .u16 r.delay, .int .u32 r.height, .int .i64 r.dead, .int .i64 r.budget, .int .i64 r.start, .int .i64 r.fee, .int .i64 q.kind, .int .i64 q.num, .int .u32 q.tx.ver, .slice ja n3 jc, .slice qa n4 qc, .int .u32 q.tx.lock, .int .i64 q.index, .string q.id, .int .u32 q.idx, .int .i64 q.val, .int .i64 q.br, .int .u16 q.tag, .int .u16 q.delay, .int .u32 q.height, .int .i64 q.dead, .int .i64 q.budget, .int .i64 q.start, .int .i64 q.fee] from by kernel_rfl]; exact hz), stay HVV.out hal, stay HUU.out hal, HRr.out.below hal, HRq.out.below hal⟩)
    clear hz hal hS HVV HUU HRr HRq HB
    obtain ⟨B1, hB1⟩ : ∃ b, b = lo 1 := ⟨_, rfl⟩
    obtain ⟨B2, hB2⟩ : ∃ b, b = lo 3 := ⟨_, rfl⟩
    rw [← hB1, ← hB2] at HP
    clear hB1 hB2
    go_loopg [20] 2 (fun g v20 wr => ∃ k : Nat, g = 2 - k ∧ k ≤ 2 ∧ v20 = .int .i64 k ∧ PutS w.heap.size B1 B2 S V U #[.int .i64 r.kind, .int .i64 r.num, .int .u32 r.tx.ver, .slice ia n1 ic, .slice oa n2 oc, .int .u32 r.tx.lock, .int .i64 r.index, .string r.id, .int .u32 r.idx, .int .i64 r.val, .int .i64 r.br, .int .u16 r.tag, .int .u16 r.delay, .int .u32 r.height, .int .i64 r.dead, .int .i64 r.budget, .int .i64 r.start, .int .i64 r.fee] #[.int .i64 q.kind, .int .i64 q.num, .int .u32 q.tx.ver, .slice ja n3 jc, .slice qa n4 qc, .int .u32 q.tx.lock, .int .i64 q.index, .string q.id, .int .u32 q.idx, .int .i64 q.val, .int .i64 q.br, .int .u16 q.tag, .int .u16 q.delay, .int .u32 q.height, .int .i64 q.dead, .int .i64 q.budget, .int .i64 q.start, .int .i64 q.fee] r q w wr)
    case atStart => exact ⟨0, rfl, by decide, rfl, HP.out⟩
    case round =>
      rename World => wo
      obtain ⟨k, hgk, hk, rfl, hp⟩ := hrel
      have HGK := hid hgk
      have HP := hid hp
      clear hgk hp
      by_cases hlt : k < 2
      · have hel : ∃ (p : PRec) (ma : Option Addr) (p1 mc : Nat) (na : Option Addr) (p2 nc B3 : Nat), wo.rangeAt S (k * 18) [.int .i64 p.kind, .int .i64 p.num, .int .u32 p.tx.ver, .slice ma p1 mc, .slice na p2 nc, .int .u32 p.tx.lock, .int .i64 p.index, .string p.id, .int .u32 p.idx, .int .i64 p.val, .int .i64 p.br, .int .u16 p.tag, .int .u16 p.delay, .int .u32 p.height, .int .i64 p.dead, .int .i64 p.budget, .int .i64 p.start, .int .i64 p.fee] ∧ RecOwn B3 wo (.agg #[.int .i64 p.kind, .int .i64 p.num, .int .u32 p.tx.ver, .slice ma p1 mc, .slice na p2 nc, .int .u32 p.tx.lock, .int .i64 p.index, .string p.id, .int .u32 p.idx, .int .i64 p.val, .int .i64 p.br, .int .u16 p.tag, .int .u16 p.delay, .int .u32 p.height, .int .i64 p.dead, .int .i64 p.budget, .int .i64 p.start, .int .i64 p.fee]) p ∧ p.tx.outs.length ≤ 1000 := by
          obtain rfl | rfl : k = 0 ∨ k = 1 := by omega
          · exact ⟨r, ia, n1, ic, oa, n2, oc, B1, HP.out.el1, HP.out.hr, HOR.out⟩
          · exact ⟨q, ja, n3, jc, qa, n4, qc, B2, HP.out.el2 rfl, HP.out.hq, HOQ.out⟩
        obtain ⟨p, ma, p1, mc, na, p2, nc, B3, hrg, hpo, hpl⟩ := hel
        have HRG := hid hrg
        have HPO := hid hpo
        have HPL := hid hpl
        clear hrg hpo hpl
        have HNW := hid (heap_alloc_new wo (.cells #[.int .i64 0, .int .i64 0, .int .u32 0, .slice none 0 0, .slice none 0 0, .int .u32 0, .int .i64 0, .string ⟨#[]⟩, .int .u32 0, .int .i64 0, .int .i64 0, .int .u16 0, .int .u16 0, .int .u32 0, .int .i64 0, .int .i64 0, .int .i64 0, .int .i64 0] 35))
        have HNR := hid (setRow_heap (wo.alloc (.cells #[.int .i64 0, .int .i64 0, .int .u32 0, .slice none 0 0, .slice none 0 0, .int .u32 0, .int .i64 0, .string ⟨#[]⟩, .int .u32 0, .int .i64 0, .int .i64 0, .int .u16 0, .int .u16 0, .int .u32 0, .int .i64 0, .int .i64 0, .int .i64 0, .int .i64 0] 35)) wo.heap.size _ #[.int .i64 p.kind, .int .i64 p.num, .int .u32 p.tx.ver, .slice ma p1 mc, .slice na p2 nc, .int .u32 p.tx.lock, .int .i64 p.index, .string p.id, .int .u32 p.idx, .int .i64 p.val, .int .i64 p.br, .int .u16 p.tag, .int .u16 p.delay, .int .u32 p.height, .int .i64 p.dead, .int .i64 p.budget, .int .i64 p.start, .int .i64 p.fee] _ _ HNW.out)
        have HAL := hid (show Below wo.heap.size wo ((wo.alloc (.cells #[.int .i64 0, .int .i64 0, .int .u32 0, .slice none 0 0, .slice none 0 0, .int .u32 0, .int .i64 0, .string ⟨#[]⟩, .int .u32 0, .int .i64 0, .int .i64 0, .int .u16 0, .int .u16 0, .int .u32 0, .int .i64 0, .int .i64 0, .int .i64 0, .int .i64 0] 35)).setRow wo.heap.size #[.int .i64 p.kind, .int .i64 p.num, .int .u32 p.tx.ver, .slice ma p1 mc, .slice na p2 nc, .int .u32 p.tx.lock, .int .i64 p.index, .string p.id, .int .u32 p.idx, .int .i64 p.val, .int .i64 p.br, .int .u16 p.tag, .int .u16 p.delay, .int .u32 p.height, .int .i64 p.dead, .int .i64 p.budget, .int .i64 p.start, .int .i64 p.fee]) from below_rowE ((Below.refl _ _).alloc (Nat.le_refl _) _) (Nat.le_refl _) _)
        go_upto_region 5 with (first | (refine wpList_load_mid rfl 35 (.tmp 22) rfl S (k * 18) rfl [.int .i64 p.kind, .int .i64 p.num, .int .u32 p.tx.ver, .slice ma p1 mc, .slice na p2 nc, .int .u32 p.tx.lock, .int .i64 p.index, .string p.id, .int .u32 p.idx, .int .i64 p.val, .int .i64 p.br, .int .u16 p.tag, .int .u16 p.delay, .int .u32 p.height, .int .i64 p.dead, .int .i64 p.budget, .int .i64 p.start, .int .i64 p.fee] _ HRG.out Tryz.underlying35 rfl (by kernel_rfl) ?_) | (refine wpList_store_row rfl 35 (.tmp 8) (.tmp 23) rfl wo.heap.size #[.int .i64 p.kind, .int .i64 p.num, .int .u32 p.tx.ver, .slice ma p1 mc, .slice na p2 nc, .int .u32 p.tx.lock, .int .i64 p.index, .string p.id, .int .u32 p.idx, .int .i64 p.val, .int .i64 p.br, .int .u16 p.tag, .int .u16 p.delay, .int .u32 p.height, .int .i64 p.dead, .int .i64 p.budget, .int .i64 p.start, .int .i64 p.fee] rfl rfl 35 _ HNW.out (by kernel_rfl) rfl (by kernel_rfl) ?_))
        clear HNW HRG
        obtain ⟨Y, hV⟩ : ∃ q, q = wo.heap.size := ⟨_, rfl⟩
        rw [← hV]
        have hz := HNR.out
        have hal := HAL.out
        clear HNR HAL
        rw [← hV] at hz hal
        generalize World.setRow _ Y _ = w3 at *
        rw [hV] at hal
        have HY := hid hz
        have HP := hid (HP.out.below HP.out.bel.size hal)
        have HPO := hid (HPO.out.below hal)
        clear hz hal hV
        try rw [put_none_]
        obtain ⟨s, hs⟩ : ∃ s, s = putE p := ⟨_, rfl⟩
        obtain ⟨c, hc⟩ : ∃ c, c = checkR p := ⟨_, rfl⟩
        have HPUT := hid (show ∀ y : World, RecAt y (rV p (.slice ma p1 mc) (.slice na p2 nc)) p → Calls Tryz.prog 10 #[rV p (.slice ma p1 mc) (.slice na p2 nc)] y (TIs s c y) from fun y h => by rw [hs, hc]; exact recput_any _ p y h HPL.out)
        have HCK := hid (show ∀ y : World, RecOwn B3 y (rV p (.slice ma p1 mc) (.slice na p2 nc)) p → Calls Tryz.prog 11 #[rV p (.slice ma p1 mc) (.slice na p2 nc)] y (CIs c y) from fun y h => by rw [hc]; exact rcheck26_any B3 _ p y h HPL.out)
        have HCL := hid (show ∀ y : World, RecAt y (rV p (.slice ma p1 mc) (.slice na p2 nc)) p → Calls Tryz.prog 12 #[rV p (.slice ma p1 mc) (.slice na p2 nc)] y (CIs c y) from fun y h => by rw [hc]; exact reccheck_any _ p y h HPL.out)
        have HBY := hid (show c = 0 → ∀ y : World, RecAt y (rV p (.slice ma p1 mc) (.slice na p2 nc)) p → Calls Tryz.prog 13 #[rV p (.slice ma p1 mc) (.slice na p2 nc)] y (fun e w' => e = .returned (.string s) ∧ Below y.heap.size y w') from fun e0 y h => by
          have e1 : checkR p = 0 := by rw [← hc]; exact e0
          have e2 : s = bL (putL p) := by rw [hs]; unfold putE; rw [if_pos e1]
          rw [e2]
          exact bytes26_any _ p y h e1)
        have HS0 := hid (show c ≠ 0 → s = ⟨#[]⟩ from fun e0 => by rw [hs]; unfold putE; rw [if_neg (by rw [← hc]; exact e0)]; rfl)
        clear hs hc HPL
        go_wp2_with (refine wpList_load_row rfl 35 (.tmp 8) rfl Y rfl 35 _ (0, 0) _ HY.out Tryz.underlying35 rfl (by kernel_rfl) ?_)
        refine (HPUT.out w3 HPO.out.at_).mono ?_
        rintro e w4 ⟨rfl, hb⟩
        have HY := hid (stay HY.out hb)
        have HP := hid (HP.out.below HP.out.bel.size hb)
        have HPO := hid (HPO.out.below hb)
        clear hb
        go_wp2_with (refine wpList_load_row rfl 35 (.tmp 8) rfl Y rfl 35 _ (0, 0) _ HY.out Tryz.underlying35 rfl (by kernel_rfl) ?_)
        refine (HCK.out w4 HPO.out).mono ?_
        rintro e w5 ⟨rfl, hb⟩
        have HY := hid (stay HY.out hb)
        have HP := hid (HP.out.below HP.out.bel.size hb)
        have HPO := hid (HPO.out.below hb)
        clear hb
        clear HPUT HCK
        go_upto_region 7 with fail
        go_cut [57] (fun v wx => v = .bool false ∧ Below w5.heap.size w5 wx)
        case first =>
          go_wp2_with (refine wpList_load_row rfl 35 (.tmp 8) rfl Y rfl 35 _ (0, 0) _ HY.out Tryz.underlying35 rfl (by kernel_rfl) ?_)
          refine (HCL.out w5 HPO.out.at_).mono ?_
          rintro e w6 ⟨rfl, hb⟩
          have HY := hid (stay HY.out hb)
          have HPO := hid (HPO.out.below hb)
          have HB6 := hid hb
          clear hb
          by_cases hc0 : c = 0
          · have HBC := hid (HBY.out hc0)
            subst hc0
            go_wp2_with (refine wpList_load_row_g 35 (.tmp 8) rfl Y rfl 35 _ (0, 0) _ HY.out Tryz.underlying35 rfl (by kernel_rfl) (by kernel_rfl) ?_)
            refine (HBC.out w6 HPO.out.at_).mono ?_
            rintro e w7 ⟨rfl, hb⟩
            have HB7 := hid (HB6.out.trans (hb.mono HB6.out.size))
            clear hb
            go_wp2_with fail
            go_meet
            exact ⟨rfl, HB7.out⟩
          · obtain rfl := HS0.out hc0
            have hc1 : (c == 0) = false := by rw [beq_eq_false_iff_ne]; exact hc0
            have hc2 : (c != 0) = true := by rw [bne, hc1]; rfl
            go_wp2_with fail
            go_meet
            exact ⟨rfl, HB6.out⟩
        case rest =>
          obtain ⟨rfl, hb⟩ := hcut
          have HY := hid (stay HY.out hb)
          have HP := hid (HP.out.below HP.out.bel.size hb)
          have HPO := hid (HPO.out.below hb)
          clear hb HCL HBY HS0
          go_upto_region 9 with fail
          obtain ⟨b1, hb1⟩ : ∃ b, b = sameR p r := ⟨_, rfl⟩
          obtain ⟨b2, hb2⟩ : ∃ b, b = sameR q p := ⟨_, rfl⟩
          have E1 := hid (show ∀ y : World, RecAt y (rV p (.slice ma p1 mc) (.slice na p2 nc)) p → RecAt y (rV r (.slice ia n1 ic) (.slice oa n2 oc)) r → Calls Tryz.prog 14 #[rV p (.slice ma p1 mc) (.slice na p2 nc), rV r (.slice ia n1 ic) (.slice oa n2 oc)] y (BIs b1 y) from fun y h1 h2 => by rw [hb1]; exact recequal_any _ _ p r y h1 h2)
          have S1 := hid (show ∀ y : World, RecAt y (rV p (.slice ma p1 mc) (.slice na p2 nc)) p → RecAt y (rV r (.slice ia n1 ic) (.slice oa n2 oc)) r → Calls Tryz.prog 15 #[rV p (.slice ma p1 mc) (.slice na p2 nc), rV r (.slice ia n1 ic) (.slice oa n2 oc)] y (BIs b1 y) from fun y h1 h2 => by rw [hb1]; exact rsame26_any _ _ p r y h1 h2)
          have E2 := hid (show ∀ y : World, RecAt y (rV q (.slice ja n3 jc) (.slice qa n4 qc)) q → RecAt y (rV p (.slice ma p1 mc) (.slice na p2 nc)) p → Calls Tryz.prog 14 #[rV q (.slice ja n3 jc) (.slice qa n4 qc), rV p (.slice ma p1 mc) (.slice na p2 nc)] y (BIs b2 y) from fun y h1 h2 => by rw [hb2]; exact recequal_any _ _ q p y h1 h2)
          have S2 := hid (show ∀ y : World, RecAt y (rV q (.slice ja n3 jc) (.slice qa n4 qc)) q → RecAt y (rV p (.slice ma p1 mc) (.slice na p2 nc)) p → Calls Tryz.prog 15 #[rV q (.slice ja n3 jc) (.slice qa n4 qc), rV p (.slice ma p1 mc) (.slice na p2 nc)] y (BIs b2 y) from fun y h1 h2 => by rw [hb2]; exact rsame26_any _ _ q p y h1 h2)
          clear hb1 hb2
          go_cut [73] (fun v wx => v = .bool false ∧ Below wc.heap.size wc wx)
          case first =>
            obtain ⟨C, hC⟩ : ∃ C : World → Prop, C = fun w' => Below wc.heap.size wc w' := ⟨_, rfl⟩
            have CY := hid (show ∀ y : World, C y → y.heap[Y]? = some (.cells #[.int .i64 p.kind, .int .i64 p.num, .int .u32 p.tx.ver, .slice ma p1 mc, .slice na p2 nc, .int .u32 p.tx.lock, .int .i64 p.index, .string p.id, .int .u32 p.idx, .int .i64 p.val, .int .i64 p.br, .int .u16 p.tag, .int .u16 p.delay, .int .u32 p.height, .int .i64 p.dead, .int .i64 p.budget, .int .i64 p.start, .int .i64 p.fee] 35 (0, 0)) from fun y h => stay HY.out (by rw [hC] at h; exact h))
            have CV := hid (show ∀ y : World, C y → y.heap[V]? = some (.cells #[.int .i64 r.kind, .int .i64 r.num, .int .u32 r.tx.ver, .slice ia n1 ic, .slice oa n2 oc, .int .u32 r.tx.lock, .int .i64 r.index, .string r.id, .int .u32 r.idx, .int .i64 r.val, .int .i64 r.br, .int .u16 r.tag, .int .u16 r.delay, .int .u32 r.height, .int .i64 r.dead, .int .i64 r.budget, .int .i64 r.start, .int .i64 r.fee] 35 (0, 0)) from fun y h => stay HP.out.v (by rw [hC] at h; exact h))
            have CU := hid (show ∀ y : World, C y → y.heap[U]? = some (.cells #[.int .i64 q.kind, .int .i64 q.num, .int .u32 q.tx.ver, .slice ja n3 jc, .slice qa n4 qc, .int .u32 q.tx.lock, .int .i64 q.index, .string q.id, .int .u32 q.idx, .int .i64 q.val, .int .i64 q.br, .int .u16 q.tag, .int .u16 q.delay, .int .u32 q.height, .int .i64 q.dead, .int .i64 q.budget, .int .i64 q.start, .int .i64 q.fee] 35 (0, 0)) from fun y h => stay HP.out.u (by rw [hC] at h; exact h))
            have CY2 := hid (fun (w' : World) (h : ∃ x : Kin C, w' = x.w) => h.elim fun x e => e ▸ CY.out x.w x.has)
            have CV2 := hid (fun (w' : World) (h : ∃ x : Kin C, w' = x.w) => h.elim fun x e => e ▸ CV.out x.w x.has)
            have CU2 := hid (fun (w' : World) (h : ∃ x : Kin C, w' = x.w) => h.elim fun x e => e ▸ CU.out x.w x.has)
            have QE1 := hid (kin_call hC fun y h => E1.out y (HPO.out.at_.below h) (HP.out.hr.at_.below h))
            have QS1 := hid (kin_call hC fun y h => S1.out y (HPO.out.at_.below h) (HP.out.hr.at_.below h))
            have QE2 := hid (kin_call hC fun y h => E2.out y (HP.out.hq.at_.below h) (HPO.out.at_.below h))
            have QS2 := hid (kin_call hC fun y h => S2.out y (HP.out.hq.at_.below h) (HPO.out.at_.below h))
            have HC := hid hC
            clear hC
            refine wp_region_kin C (by kernel_rfl) (by kernel_rfl) (by rw [HC.out]; exact ⟨rfl, rfl, rfl, Nat.le_refl _, fun _ _ => rfl⟩) ?_
            intro hne
            refine quiet_row (by first | kernel_rfl | (simp [Region.wanted, yielded])) 35 (.tmp 8) rfl Y (by kernel_rfl) 35 _ (0, 0) _ CY2.out Tryz.underlying35 rfl (by kernel_rfl) ?_
            refine quiet_row (by first | kernel_rfl | (simp [Region.wanted, yielded])) 35 (.tmp 5) rfl V (by kernel_rfl) 35 _ (0, 0) _ CV2.out Tryz.underlying35 rfl (by kernel_rfl) ?_
            repeat (first | (go_big_quiet_step (first | (rename_i y; go_at_call 14; exact Calls.kin (QE1.out y) (fun w' h => h)) | (rename_i y; go_at_call 15; exact Calls.kin (QS1.out y) (fun w' h => h)))) | (quiet_step (first | (rename_i y; go_at_call 14; exact Calls.kin (QE1.out y) (fun w' h => h)) | (rename_i y; go_at_call 15; exact Calls.kin (QS1.out y) (fun w' h => h)))))
            refine quiet_row (by first | kernel_rfl | (simp [Region.wanted, yielded])) 35 (.tmp 8) rfl Y (by kernel_rfl) 35 _ (0, 0) _ CY2.out Tryz.underlying35 rfl (by kernel_rfl) ?_
            refine quiet_row (by first | kernel_rfl | (simp [Region.wanted, yielded])) 35 (.tmp 5) rfl V (by kernel_rfl) 35 _ (0, 0) _ CV2.out Tryz.underlying35 rfl (by kernel_rfl) ?_
            repeat (first | (go_big_quiet_step (first | (rename_i y; go_at_call 14; exact Calls.kin (QE1.out y) (fun w' h => h)) | (rename_i y; go_at_call 15; exact Calls.kin (QS1.out y) (fun w' h => h)))) | (quiet_step (first | (rename_i y; go_at_call 14; exact Calls.kin (QE1.out y) (fun w' h => h)) | (rename_i y; go_at_call 15; exact Calls.kin (QS1.out y) (fun w' h => h)))))
            refine quiet_row (by first | kernel_rfl | (simp [Region.wanted, yielded])) 35 (.tmp 6) rfl U (by kernel_rfl) 35 _ (0, 0) _ CU2.out Tryz.underlying35 rfl (by kernel_rfl) ?_
            refine quiet_row (by first | kernel_rfl | (simp [Region.wanted, yielded])) 35 (.tmp 8) rfl Y (by kernel_rfl) 35 _ (0, 0) _ CY2.out Tryz.underlying35 rfl (by kernel_rfl) ?_
            repeat (first | (go_big_quiet_step (first | (rename_i y; go_at_call 14; exact Calls.kin (QE2.out y) (fun w' h => h)) | (rename_i y; go_at_call 15; exact Calls.kin (QS2.out y) (fun w' h => h)))) | (quiet_step (first | (rename_i y; go_at_call 14; exact Calls.kin (QE2.out y) (fun w' h => h)) | (rename_i y; go_at_call 15; exact Calls.kin (QS2.out y) (fun w' h => h)))))
            refine quiet_row (by first | kernel_rfl | (simp [Region.wanted, yielded])) 35 (.tmp 6) rfl U (by kernel_rfl) 35 _ (0, 0) _ CU2.out Tryz.underlying35 rfl (by kernel_rfl) ?_
            refine quiet_row (by first | kernel_rfl | (simp [Region.wanted, yielded])) 35 (.tmp 8) rfl Y (by kernel_rfl) 35 _ (0, 0) _ CY2.out Tryz.underlying35 rfl (by kernel_rfl) ?_
            repeat (first | (go_big_quiet_step (first | (rename_i y; go_at_call 14; exact Calls.kin (QE2.out y) (fun w' h => h)) | (rename_i y; go_at_call 15; exact Calls.kin (QS2.out y) (fun w' h => h)))) | (quiet_step (first | (rename_i y; go_at_call 14; exact Calls.kin (QE2.out y) (fun w' h => h)) | (rename_i y; go_at_call 15; exact Calls.kin (QS2.out y) (fun w' h => h)))))
            refine wpQuiet_nil ?_
            intro _ hw'
            obtain ⟨kx, hw''⟩ := hw'
            subst hw''
            obtain ⟨w9, hxc⟩ := kx
            rw [HC.out] at hxc
            clear HC hne
            go_wp2_with fail
            go_meet
            exact ⟨rfl, hxc⟩
          case rest =>
            obtain ⟨rfl, hb⟩ := hcut
            have HP := hid (HP.out.below HP.out.bel.size hb)
            clear hb
            go_wp2_with fail
            go_roundg (2 - (k + 1))
            case measure => have := HGK.out; omega
            case rel => exact ⟨k + 1, rfl, by omega, by go_num, HP.out⟩
      · go_wp2_with fail
        refine (wakes26_any wo).mono ?_
        rintro e w6 ⟨rfl, hb⟩
        have HB := hid (HP.out.bel.trans (hb.mono HP.out.bel.size))
        clear hb
        go_wp2_with fail
        go_ret
        exact ⟨rfl, HB.out⟩
end Go.Proofs.YtaooibocknemkaaGreat
