/-
  The document's reserves: a coin is leased. Conditions: the leases and the coins lie in memory.
-/
import Derived.Test.YtelindgnkpfkiaaVx
import Derived.Test.YtelindgnkpfkiaaRl5
namespace Go.Proofs.Ytelindgnkpfkiaa
open Go.RowKit Go.BigFrame Go.Maps
set_option linter.unusedVariables false
set_option linter.unusedSimpArgs false

def TkP (tag : Nat) (sv : Value) (r : PLs × PEn × Int) (w : World) (e : Ending) (w' : World) : Prop := ∃ v, e = .returned (.tuple #[.agg #[.int .u16 tag, v], .agg (enC r.2.1), .int .i64 r.2.2]) ∧ SlAt rpLs w' v r.1 ∧ Below w.heap.size w w' ∧ (v = sv ∨ ∀ B, v.ownBlock = some B → w.heap.size ≤ B)
abbrev zE5 : Array Value := #[.string ⟨#[]⟩, .int .u32 0, .int .i64 0, .string ⟨#[]⟩, .int .i64 0]
structure TkS (w : World) (X tag : Nat) (sv : Value) (wr : World) : Prop where
  bel : Below w.heap.size w wr
  base : X = w.heap.size
  b0 : wr.heap[X]? = some (.cells #[.int .u16 tag, sv] 61 (0, 0))
  b1 : wr.heap[X + 1]? = some (.cells #[.int .u16 0, .slice none 0 0] 61 (0, 0))
  b2 : wr.heap[X + 1 + 1]? = some (.cells #[.string ⟨#[]⟩, .int .u32 0, .int .i64 0, .string ⟨#[]⟩, .int .i64 0] 63 (0, 0))
  b3 : wr.heap[X + 1 + 1 + 1]? = some (.cells #[.string ⟨#[]⟩, .int .u32 0, .int .i64 0, .string ⟨#[]⟩, .int .i64 0] 63 (0, 0))
theorem TkS.below {w wr w' : World} {X tag : Nat} {sv : Value} (h : TkS w X tag sv wr) (hb : Below wr.heap.size wr w') : TkS w X tag sv w' := ⟨h.bel.trans (hb.mono h.bel.size), h.base, stay h.b0 hb, stay h.b1 hb, stay h.b2 hb, stay h.b3 hb⟩
theorem tks_start (w : World) (X tag : Nat) (sv : Value) (hX : X = w.heap.size) : TkS w X tag sv ((((w.alloc (.cells #[.int .u16 tag, sv] 61)).alloc (.cells #[.int .u16 0, .slice none 0 0] 61)).alloc (.cells #[.string ⟨#[]⟩, .int .u32 0, .int .i64 0, .string ⟨#[]⟩, .int .i64 0] 63)).alloc (.cells #[.string ⟨#[]⟩, .int .u32 0, .int .i64 0, .string ⟨#[]⟩, .int .i64 0] 63)) := by
  obtain ⟨h1, h2, h3, h4⟩ := new3 w X hX (.cells #[.int .u16 tag, sv] 61) (.cells #[.int .u16 0, .slice none 0 0] 61) (.cells #[.string ⟨#[]⟩, .int .u32 0, .int .i64 0, .string ⟨#[]⟩, .int .i64 0] 63)
  have hs : (((w.alloc (.cells #[.int .u16 tag, sv] 61)).alloc (.cells #[.int .u16 0, .slice none 0 0] 61)).alloc (.cells #[.string ⟨#[]⟩, .int .u32 0, .int .i64 0, .string ⟨#[]⟩, .int .i64 0] 63)).heap.size = X + 1 + 1 + 1 := by simp [hX]
  generalize ((w.alloc (.cells #[.int .u16 tag, sv] 61)).alloc (.cells #[.int .u16 0, .slice none 0 0] 61)).alloc (.cells #[.string ⟨#[]⟩, .int .u32 0, .int .i64 0, .string ⟨#[]⟩, .int .i64 0] 63) = w3 at *
  have hn := heap_alloc_new w3 (.cells #[.string ⟨#[]⟩, .int .u32 0, .int .i64 0, .string ⟨#[]⟩, .int .i64 0] 63)
  have hb : Below w3.heap.size w3 (w3.alloc (.cells #[.string ⟨#[]⟩, .int .u32 0, .int .i64 0, .string ⟨#[]⟩, .int .i64 0] 63)) := (Below.refl _ _).alloc (Nat.le_refl _) _
  rw [hs] at hn
  exact ⟨h4.trans (hb.mono h4.size), hX, stay h1 hb, stay h2 hb, stay h3 hb, hn⟩
theorem brow {B : Nat} {a w : World} (h : Below B a w) {Q : Nat} (hQ : B ≤ Q) (cs : Array Value) : Below B a (w.setRow Q cs) :=
  ⟨h.os, h.tape, h.output, by rw [setRow_size]; exact h.size, fun k hk => (setRow_other w Q k cs (by omega)).trans (h.block k hk)⟩
theorem bdrew {B : Nat} {a w wf : World} (h : Below B a w) (hf : wf = w.drew) : Below B a wf := by
  subst hf
  exact ⟨h.os, h.tape, h.output, h.size, h.block⟩
theorem tk_end {w wr wf : World} {X tag : Nat} {sv : Value} (h : TkS w X tag sv wr) (v v0 v1 v2 v3 v4 : Value) (hf : wf = (((((((wr.setCell ⟨X + 1, 0, none⟩ (.int .u16 tag)).setCell ⟨X + 1, 1, none⟩ v).setCell ⟨X + 1 + 1, 0, none⟩ v0).setCell ⟨X + 1 + 1, 1, none⟩ v1).setCell ⟨X + 1 + 1, 2, none⟩ v2).setCell ⟨X + 1 + 1, 3, none⟩ v3).setCell ⟨X + 1 + 1, 4, none⟩ v4).drew) :
    wf.heap[X + 1]? = some (.cells #[.int .u16 tag, v] 61 (0, 0)) ∧ wf.heap[X + 1 + 1]? = some (.cells #[v0, v1, v2, v3, v4] 63 (0, 0)) ∧ Below w.heap.size w wf ∧ ∀ b, b ≠ X + 1 → b ≠ X + 1 + 1 → wf.heap[b]? = wr.heap[b]? := by
  obtain ⟨a1, a2, a3⟩ := two_cells h.b1 (.int .u16 tag) v
  have hX := h.base
  have h2 := (a2 (X + 1 + 1) (by omega)).trans h.b2
  have hb1 := h.bel.trans (a3 w.heap.size (by omega))
  generalize (wr.setCell ⟨X + 1, 0, none⟩ (.int .u16 tag)).setCell ⟨X + 1, 1, none⟩ v = w1 at *
  obtain ⟨c1, c2, c3⟩ := five_cells h2 v0 v1 v2 v3 v4
  have hb2 := hb1.trans (c3 w.heap.size (by omega))
  generalize ((((w1.setCell ⟨X + 1 + 1, 0, none⟩ v0).setCell ⟨X + 1 + 1, 1, none⟩ v1).setCell ⟨X + 1 + 1, 2, none⟩ v2).setCell ⟨X + 1 + 1, 3, none⟩ v3).setCell ⟨X + 1 + 1, 4, none⟩ v4 = w2 at *
  have hh : wf.heap = w2.heap := by rw [hf]; rfl
  have hbf := bdrew hb2 hf
  rw [hh]
  exact ⟨(c2 (X + 1) (by omega)).trans a1, c1, hbf, fun b e1 e2 => (c2 b e2).trans (a2 b e1)⟩
theorem SlAt.old {w : World} {a : Option Addr} {n c i b o : Nat} {xs : List PEn} (h : SlAt rpEn w (.slice a n c) xs) (hi : i < n) (ha : a = some ⟨b, o, none⟩) : b < w.heap.size := by
  obtain ⟨b', o', x, e, -, -, d0, -⟩ := h.en hi
  rw [ha] at e
  obtain ⟨rfl, rfl⟩ : b = b' ∧ o = o' := by simpa using e
  exact World.block_lt_of_cell? w _ d0
def Fact.res (tag : Nat) (L : PLs) : Fact := ⟨fun v _ lo hi w => ∃ u, v = .agg #[.int .u16 tag, u] ∧ (∀ b, u.ownBlock = some b → lo ≤ b ∧ b < hi) ∧ LsOwn 0 w u L,
  fun hk ⟨u, h1, h2, h3⟩ => ⟨u, h1, h2, ownsRow_of_block h3.row fun b hb => hk b (h2 b hb).2, h3.ok⟩⟩
def RTk (tag m k j : Nat) (a' : Option Addr) (c' c : Nat) (sb : Addr) (key : Int) (p : Pt) (L : PLs) : Nat → Fact
  | 0 => .val fun _ => .agg #[.int .u16 tag, .slice a' m c']
  | 1 => .val fun _ => .int .i64 key
  | 2 => .val fun _ => .slice (some sb) k c
  | 3 => .val fun _ => .int .i64 j
  | 4 => .val fun _ => .pointer (some ⟨sb.block, sb.off + j * 5, none⟩)
  | 5 => .val fun _ => .pointer (some ⟨sb.block, sb.off + j * 5, none⟩)
  | 6 => .val fun _ => .agg #[.string p.1, .int .u32 p.2]
  | 7 => .res tag L
  | 8 => .box fun _ => .cells #[.int .u16 0, .slice none 0 0] 61 (0, 0)
  | _ => .val fun _ => undef
set_option maxRecDepth 100000 in
set_option maxHeartbeats 4000000 in
theorem rtake_any (tag : Nat) (sv sl : Value) (L : PLs) (key need : Int) (l : List PEn) (w : World) (hsv : SlAt rpLs w sv L) (hsl : SlAt rpEn w sl l) (ht : tag < 65536) (hL : L.length < 1000) (hkey : -9223372036854775808 ≤ key ∧ key ≤ 9223372036854775807) : Calls Try.prog 20 #[.agg #[.int .u16 tag, sv], .int .i64 key, .int .i64 need, sl] w (TkP tag sv (takeE (scrT tag) L key need l) w) := by
  obtain ⟨R, hR⟩ : ∃ R, R = takeE (scrT tag) L key need l := ⟨_, rfl⟩
  rw [← hR]
  unfold takeE at hR
  have HRES := Lib.hid hR
  have HSV := Lib.hid hsv
  have HSL := Lib.hid hsl
  have HLL := Lib.hid hL
  have HKEY := Lib.hid hkey
  obtain ⟨a', c', rfl, hm1, hm2⟩ := hsv.shape
  obtain ⟨a, c, rfl, hl1, hl2⟩ := hsl.shape
  rw [maxLen_eq] at hl2 hm2
  obtain ⟨n, hn⟩ : ∃ n, n = l.length := ⟨_, rfl⟩
  rw [← hn] at hl1 HSL ⊢
  have HN := Lib.hid hn
  obtain ⟨m, hm⟩ : ∃ m, m = L.length := ⟨_, rfl⟩
  rw [← hm] at HSV hm1 HLL ⊢
  have HM := Lib.hid hm
  clear hn hsl hsv hm hR hL hkey
  go_enter Try.func20, Try.ntmps20
  go_upto_region 2 with fail
  obtain ⟨X, hX⟩ : ∃ q, q = w.heap.size := ⟨_, rfl⟩
  have hst := tks_start w X tag (.slice a' m c') hX
  rw [← hX]
  generalize (((w.alloc (.cells #[.int .u16 tag, .slice a' m c'] 61)).alloc (.cells #[.int .u16 0, .slice none 0 0] 61)).alloc (.cells #[.string ⟨#[]⟩, .int .u32 0, .int .i64 0, .string ⟨#[]⟩, .int .i64 0] 63)).alloc (.cells #[.string ⟨#[]⟩, .int .u32 0, .int .i64 0, .string ⟨#[]⟩, .int .i64 0] 63) = w0 at *
  have HST := Lib.hid hst
  clear hst hX
  obtain ⟨gd, hgd⟩ : ∃ gd, gd = goodA need := ⟨_, rfl⟩
  have HGD := Lib.hid (show Calls Try.prog 35 #[.int .i64 need] w0 (fun e w' => e = .returned (.bool gd) ∧ w0 = w') from hgd ▸ rgood_any need w0)
  go_wp2_with fail
  refine HGD.out.mono ?_
  rintro e w' ⟨rfl, rfl⟩
  have HGD := Lib.hid hgd
  clear hgd
  by_cases hbad : key < 0 ∨ gd = false
  · have HR := Lib.hid (HRES.out.trans (if_pos (by rw [← HGD.out]; exact hbad)))
    have x0 : w0.cell? ⟨X + 1, 0, none⟩ = some (.int .u16 0) := cell_at HST.out.b1
    have f0 : w0.frozen? ⟨X + 1, 0, none⟩ = false := free_at HST.out.b1
    have x1 : w0.cell? ⟨X + 1, 1, none⟩ = some (.slice none 0 0) := cell_at HST.out.b1
    have f1 : w0.frozen? ⟨X + 1, 1, none⟩ = false := free_at HST.out.b1
    have y0 : w0.cell? ⟨X + 1 + 1, 0, none⟩ = some (.string ⟨#[]⟩) := cell_at HST.out.b2
    have g0 : w0.frozen? ⟨X + 1 + 1, 0, none⟩ = false := free_at HST.out.b2
    have y1 : w0.cell? ⟨X + 1 + 1, 1, none⟩ = some (.int .u32 0) := cell_at HST.out.b2
    have g1 : w0.frozen? ⟨X + 1 + 1, 1, none⟩ = false := free_at HST.out.b2
    have y2 : w0.cell? ⟨X + 1 + 1, 2, none⟩ = some (.int .i64 0) := cell_at HST.out.b2
    have g2 : w0.frozen? ⟨X + 1 + 1, 2, none⟩ = false := free_at HST.out.b2
    have y3 : w0.cell? ⟨X + 1 + 1, 3, none⟩ = some (.string ⟨#[]⟩) := cell_at HST.out.b2
    have g3 : w0.frozen? ⟨X + 1 + 1, 3, none⟩ = false := free_at HST.out.b2
    have y4 : w0.cell? ⟨X + 1 + 1, 4, none⟩ = some (.int .i64 0) := cell_at HST.out.b2
    have g4 : w0.frozen? ⟨X + 1 + 1, 4, none⟩ = false := free_at HST.out.b2
    have c0 : w0.cell? ⟨X, 0, none⟩ = some (.int .u16 tag) := cell_at HST.out.b0
    have c1 : w0.cell? ⟨X, 1, none⟩ = some (.slice a' m c') := cell_at HST.out.b0
    have z0 : w0.cell? ⟨X + 1 + 1 + 1, 0, none⟩ = some (.string ⟨#[]⟩) := cell_at HST.out.b3
    have z1 : w0.cell? ⟨X + 1 + 1 + 1, 1, none⟩ = some (.int .u32 0) := cell_at HST.out.b3
    have z2 : w0.cell? ⟨X + 1 + 1 + 1, 2, none⟩ = some (.int .i64 0) := cell_at HST.out.b3
    have z3 : w0.cell? ⟨X + 1 + 1 + 1, 3, none⟩ = some (.string ⟨#[]⟩) := cell_at HST.out.b3
    have z4 : w0.cell? ⟨X + 1 + 1 + 1, 4, none⟩ = some (.int .i64 0) := cell_at HST.out.b3
    by_cases hk0 : key < 0
    · clear hbad
      go_upto_region 4 with fail
      go_region
      go_wp2_with fail
      clear x0 x1 f0 f1 y0 y1 y2 y3 y4 g0 g1 g2 g3 g4 c0 c1 z0 z1 z2 z3 z4
      obtain ⟨wf, hwf⟩ : ∃ wf, wf = (((((((w0.setCell ⟨X + 1, 0, none⟩ (.int .u16 tag)).setCell ⟨X + 1, 1, none⟩ (.slice a' m c')).setCell ⟨X + 1 + 1, 0, none⟩ (.string ⟨#[]⟩)).setCell ⟨X + 1 + 1, 1, none⟩ (.int .u32 0)).setCell ⟨X + 1 + 1, 2, none⟩ (.int .i64 0)).setCell ⟨X + 1 + 1, 3, none⟩ (.string ⟨#[]⟩)).setCell ⟨X + 1 + 1, 4, none⟩ (.int .i64 0)).drew := ⟨_, rfl⟩
      rw [← hwf]
      have hend := tk_end HST.out (.slice a' m c') (.string ⟨#[]⟩) (.int .u32 0) (.int .i64 0) (.string ⟨#[]⟩) (.int .i64 0) hwf
      clear hwf
      obtain ⟨hq1, hq2, hbf, hoth⟩ := hend
      have r0 : wf.cell? ⟨X + 1, 0, none⟩ = some (.int .u16 tag) := cell_at hq1
      have r1 : wf.cell? ⟨X + 1, 1, none⟩ = some (.slice a' m c') := cell_at hq1
      have s0 : wf.cell? ⟨X + 1 + 1, 0, none⟩ = some (.string ⟨#[]⟩) := cell_at hq2
      have s1 : wf.cell? ⟨X + 1 + 1, 1, none⟩ = some (.int .u32 0) := cell_at hq2
      have s2 : wf.cell? ⟨X + 1 + 1, 2, none⟩ = some (.int .i64 0) := cell_at hq2
      have s3 : wf.cell? ⟨X + 1 + 1, 3, none⟩ = some (.string ⟨#[]⟩) := cell_at hq2
      have s4 : wf.cell? ⟨X + 1 + 1, 4, none⟩ = some (.int .i64 0) := cell_at hq2
      have hfin : SlAt rpLs wf (.slice a' m c') _ := HSV.out.below hbf
      refine bodyPost_ret (v := .tuple #[.agg #[.int .u16 tag, .slice a' m c'], .agg #[.string ⟨#[]⟩, .int .u32 0, .int .i64 0, .string ⟨#[]⟩, .int .i64 0], .int .i64 2]) (by simp [results, Try.results20, go_sem, r0, r1, s0, s1, s2, s3, s4]) rfl ?_
      rw [HR.out]
      exact ⟨_, rfl, hfin, hbf, .inl rfl⟩
    · obtain rfl : gd = false := by rcases hbad with h | h; exact absurd h hk0; exact h
      clear hbad
      go_upto_region 4 with fail
      go_region
      go_wp2_with fail
      clear x0 x1 f0 f1 y0 y1 y2 y3 y4 g0 g1 g2 g3 g4 c0 c1 z0 z1 z2 z3 z4
      obtain ⟨wf, hwf⟩ : ∃ wf, wf = (((((((w0.setCell ⟨X + 1, 0, none⟩ (.int .u16 tag)).setCell ⟨X + 1, 1, none⟩ (.slice a' m c')).setCell ⟨X + 1 + 1, 0, none⟩ (.string ⟨#[]⟩)).setCell ⟨X + 1 + 1, 1, none⟩ (.int .u32 0)).setCell ⟨X + 1 + 1, 2, none⟩ (.int .i64 0)).setCell ⟨X + 1 + 1, 3, none⟩ (.string ⟨#[]⟩)).setCell ⟨X + 1 + 1, 4, none⟩ (.int .i64 0)).drew := ⟨_, rfl⟩
      rw [← hwf]
      have hend := tk_end HST.out (.slice a' m c') (.string ⟨#[]⟩) (.int .u32 0) (.int .i64 0) (.string ⟨#[]⟩) (.int .i64 0) hwf
      clear hwf
      obtain ⟨hq1, hq2, hbf, hoth⟩ := hend
      have r0 : wf.cell? ⟨X + 1, 0, none⟩ = some (.int .u16 tag) := cell_at hq1
      have r1 : wf.cell? ⟨X + 1, 1, none⟩ = some (.slice a' m c') := cell_at hq1
      have s0 : wf.cell? ⟨X + 1 + 1, 0, none⟩ = some (.string ⟨#[]⟩) := cell_at hq2
      have s1 : wf.cell? ⟨X + 1 + 1, 1, none⟩ = some (.int .u32 0) := cell_at hq2
      have s2 : wf.cell? ⟨X + 1 + 1, 2, none⟩ = some (.int .i64 0) := cell_at hq2
      have s3 : wf.cell? ⟨X + 1 + 1, 3, none⟩ = some (.string ⟨#[]⟩) := cell_at hq2
      have s4 : wf.cell? ⟨X + 1 + 1, 4, none⟩ = some (.int .i64 0) := cell_at hq2
      have hfin : SlAt rpLs wf (.slice a' m c') _ := HSV.out.below hbf
      refine bodyPost_ret (v := .tuple #[.agg #[.int .u16 tag, .slice a' m c'], .agg #[.string ⟨#[]⟩, .int .u32 0, .int .i64 0, .string ⟨#[]⟩, .int .i64 0], .int .i64 2]) (by simp [results, Try.results20, go_sem, r0, r1, s0, s1, s2, s3, s4]) rfl ?_
      rw [HR.out]
      exact ⟨_, rfl, hfin, hbf, .inl rfl⟩
  have hgt : gd = true := by cases gd; exact absurd (.inr rfl) hbad; rfl
  subst hgt
  have hk0 : ¬ key < 0 := fun h => hbad (.inl h)
  have HR1 := Lib.hid (HRES.out.trans (if_neg (by rw [← HGD.out]; exact hbad)))
  clear hbad
  have c0 : w0.cell? ⟨X, 0, none⟩ = some (.int .u16 tag) := cell_at HST.out.b0
  have c1 : w0.cell? ⟨X, 1, none⟩ = some (.slice a' m c') := cell_at HST.out.b0
  go_wp2_with fail
  refine (rfind_any tag _ L key w0 (HSV.out.below HST.out.bel)).mono ?_
  rintro e w1 ⟨rfl, hxc⟩
  have HST := Lib.hid (HST.out.below hxc)
  clear hxc hk0 c0 c1 HRES HGD
  cases hf : findI L key with
  | some ix =>
    have hix : ix < m := by
      rw [HM.out]; unfold findI at hf; rw [List.findIdx?_eq_some_iff_getElem] at hf; exact hf.1
    obtain ⟨lb, lo, le, hle1, hle, hlok, l0, l1, l2⟩ := (HSV.out.below HST.out.bel).ls hix
    subst hle1
    have HR2 := Lib.hid (HR1.out.trans (by rw [hf]))
    have HLE := Lib.hid hle
    have hli := hlok.idx
    clear hf hle hlok
    dsimp only at HR2
    rw [show (L.getD ix (0, (⟨#[]⟩, 0))).2 = le.2 by rw [List.getD_eq_getElem?_getD, HLE.out]; rfl] at HR2
    unfold idxV
    dsimp only
    have c0 : w1.cell? ⟨X, 0, none⟩ = some (.int .u16 tag) := cell_at HST.out.b0
    have c1 : w1.cell? ⟨X, 1, none⟩ = some (.slice (some ⟨lb, lo, none⟩) m c') := cell_at HST.out.b0
    go_wp2_with fail
    refine (r10find_any _ l le.2 w1 (HSL.out.below HST.out.bel) hli).mono ?_
    rintro e w2 ⟨rfl, hxc⟩
    have HST := Lib.hid (HST.out.below hxc)
    clear hxc c0 c1 l0 l1 l2 hli
    cases hg : l.findIdx? fun x => decide (x.pt = le.2) with
    | none =>
      have HR := Lib.hid (HR2.out.trans (show _ = (L, zEn, 17) by rw [find_fst hg]; rfl))
      clear hg
      unfold idxV
      dsimp only
      have x0 : w2.cell? ⟨X + 1, 0, none⟩ = some (.int .u16 0) := cell_at HST.out.b1
      have f0 : w2.frozen? ⟨X + 1, 0, none⟩ = false := free_at HST.out.b1
      have x1 : w2.cell? ⟨X + 1, 1, none⟩ = some (.slice none 0 0) := cell_at HST.out.b1
      have f1 : w2.frozen? ⟨X + 1, 1, none⟩ = false := free_at HST.out.b1
      have y0 : w2.cell? ⟨X + 1 + 1, 0, none⟩ = some (.string ⟨#[]⟩) := cell_at HST.out.b2
      have g0 : w2.frozen? ⟨X + 1 + 1, 0, none⟩ = false := free_at HST.out.b2
      have y1 : w2.cell? ⟨X + 1 + 1, 1, none⟩ = some (.int .u32 0) := cell_at HST.out.b2
      have g1 : w2.frozen? ⟨X + 1 + 1, 1, none⟩ = false := free_at HST.out.b2
      have y2 : w2.cell? ⟨X + 1 + 1, 2, none⟩ = some (.int .i64 0) := cell_at HST.out.b2
      have g2 : w2.frozen? ⟨X + 1 + 1, 2, none⟩ = false := free_at HST.out.b2
      have y3 : w2.cell? ⟨X + 1 + 1, 3, none⟩ = some (.string ⟨#[]⟩) := cell_at HST.out.b2
      have g3 : w2.frozen? ⟨X + 1 + 1, 3, none⟩ = false := free_at HST.out.b2
      have y4 : w2.cell? ⟨X + 1 + 1, 4, none⟩ = some (.int .i64 0) := cell_at HST.out.b2
      have g4 : w2.frozen? ⟨X + 1 + 1, 4, none⟩ = false := free_at HST.out.b2
      have c0 : w2.cell? ⟨X, 0, none⟩ = some (.int .u16 tag) := cell_at HST.out.b0
      have c1 : w2.cell? ⟨X, 1, none⟩ = some (.slice (some ⟨lb, lo, none⟩) m c') := cell_at HST.out.b0
      have z0 : w2.cell? ⟨X + 1 + 1 + 1, 0, none⟩ = some (.string ⟨#[]⟩) := cell_at HST.out.b3
      have z1 : w2.cell? ⟨X + 1 + 1 + 1, 1, none⟩ = some (.int .u32 0) := cell_at HST.out.b3
      have z2 : w2.cell? ⟨X + 1 + 1 + 1, 2, none⟩ = some (.int .i64 0) := cell_at HST.out.b3
      have z3 : w2.cell? ⟨X + 1 + 1 + 1, 3, none⟩ = some (.string ⟨#[]⟩) := cell_at HST.out.b3
      have z4 : w2.cell? ⟨X + 1 + 1 + 1, 4, none⟩ = some (.int .i64 0) := cell_at HST.out.b3
      go_upto_region 9 with fail
      go_region
      go_wp2_with fail
      clear x0 x1 f0 f1 y0 y1 y2 y3 y4 g0 g1 g2 g3 g4 c0 c1 z0 z1 z2 z3 z4
      obtain ⟨wf, hwf⟩ : ∃ wf, wf = (((((((w2.setCell ⟨X + 1, 0, none⟩ (.int .u16 tag)).setCell ⟨X + 1, 1, none⟩ (.slice (some ⟨lb, lo, none⟩) m c')).setCell ⟨X + 1 + 1, 0, none⟩ (.string ⟨#[]⟩)).setCell ⟨X + 1 + 1, 1, none⟩ (.int .u32 0)).setCell ⟨X + 1 + 1, 2, none⟩ (.int .i64 0)).setCell ⟨X + 1 + 1, 3, none⟩ (.string ⟨#[]⟩)).setCell ⟨X + 1 + 1, 4, none⟩ (.int .i64 0)).drew := ⟨_, rfl⟩
      rw [← hwf]
      have hend := tk_end HST.out (.slice (some ⟨lb, lo, none⟩) m c') (.string ⟨#[]⟩) (.int .u32 0) (.int .i64 0) (.string ⟨#[]⟩) (.int .i64 0) hwf
      clear hwf
      obtain ⟨hq1, hq2, hbf, hoth⟩ := hend
      have r0 : wf.cell? ⟨X + 1, 0, none⟩ = some (.int .u16 tag) := cell_at hq1
      have r1 : wf.cell? ⟨X + 1, 1, none⟩ = some (.slice (some ⟨lb, lo, none⟩) m c') := cell_at hq1
      have s0 : wf.cell? ⟨X + 1 + 1, 0, none⟩ = some (.string ⟨#[]⟩) := cell_at hq2
      have s1 : wf.cell? ⟨X + 1 + 1, 1, none⟩ = some (.int .u32 0) := cell_at hq2
      have s2 : wf.cell? ⟨X + 1 + 1, 2, none⟩ = some (.int .i64 0) := cell_at hq2
      have s3 : wf.cell? ⟨X + 1 + 1, 3, none⟩ = some (.string ⟨#[]⟩) := cell_at hq2
      have s4 : wf.cell? ⟨X + 1 + 1, 4, none⟩ = some (.int .i64 0) := cell_at hq2
      have hfin : SlAt rpLs wf (.slice (some ⟨lb, lo, none⟩) m c') _ := HSV.out.below hbf
      refine bodyPost_ret (v := .tuple #[.agg #[.int .u16 tag, .slice (some ⟨lb, lo, none⟩) m c'], .agg #[.string ⟨#[]⟩, .int .u32 0, .int .i64 0, .string ⟨#[]⟩, .int .i64 0], .int .i64 17]) (by simp [results, Try.results20, go_sem, r0, r1, s0, s1, s2, s3, s4]) rfl ?_
      rw [HR.out]
      exact ⟨_, rfl, hfin, hbf, .inl rfl⟩
    | some j =>
      have hjn : j < n := by
        rw [HN.out]; rw [List.findIdx?_eq_some_iff_getElem] at hg; exact hg.1
      obtain ⟨sb, so, x, hsb, hx, hxo, d0, d1, d2, d3, d4⟩ := (HSL.out.below HST.out.bel).en hjn
      have hold := HSL.out.old hjn hsb
      rw [← HST.out.base] at hold
      have n1 : sb ≠ X + 1 := by omega
      have n2 : sb ≠ X + 1 + 1 := by omega
      have n3 : X + 1 ≠ sb := by omega
      have n4 : X + 1 + 1 ≠ sb := by omega
      clear hold
      subst hsb
      have HR := Lib.hid (HR2.out.trans (show _ = (L, x, 0) by rw [find_fst hg, Option.bind_some, hx]))
      have hxv := hxo.val
      clear hg hx hxo
      unfold idxV
      dsimp only
      have x0 : w2.cell? ⟨X + 1, 0, none⟩ = some (.int .u16 0) := cell_at HST.out.b1
      have f0 : w2.frozen? ⟨X + 1, 0, none⟩ = false := free_at HST.out.b1
      have x1 : w2.cell? ⟨X + 1, 1, none⟩ = some (.slice none 0 0) := cell_at HST.out.b1
      have f1 : w2.frozen? ⟨X + 1, 1, none⟩ = false := free_at HST.out.b1
      have y0 : w2.cell? ⟨X + 1 + 1, 0, none⟩ = some (.string ⟨#[]⟩) := cell_at HST.out.b2
      have g0 : w2.frozen? ⟨X + 1 + 1, 0, none⟩ = false := free_at HST.out.b2
      have y1 : w2.cell? ⟨X + 1 + 1, 1, none⟩ = some (.int .u32 0) := cell_at HST.out.b2
      have g1 : w2.frozen? ⟨X + 1 + 1, 1, none⟩ = false := free_at HST.out.b2
      have y2 : w2.cell? ⟨X + 1 + 1, 2, none⟩ = some (.int .i64 0) := cell_at HST.out.b2
      have g2 : w2.frozen? ⟨X + 1 + 1, 2, none⟩ = false := free_at HST.out.b2
      have y3 : w2.cell? ⟨X + 1 + 1, 3, none⟩ = some (.string ⟨#[]⟩) := cell_at HST.out.b2
      have g3 : w2.frozen? ⟨X + 1 + 1, 3, none⟩ = false := free_at HST.out.b2
      have y4 : w2.cell? ⟨X + 1 + 1, 4, none⟩ = some (.int .i64 0) := cell_at HST.out.b2
      have g4 : w2.frozen? ⟨X + 1 + 1, 4, none⟩ = false := free_at HST.out.b2
      have c0 : w2.cell? ⟨X, 0, none⟩ = some (.int .u16 tag) := cell_at HST.out.b0
      have c1 : w2.cell? ⟨X, 1, none⟩ = some (.slice (some ⟨lb, lo, none⟩) m c') := cell_at HST.out.b0
      go_upto_region 10 with fail
      go_region
      go_wp2_with fail
      clear x0 x1 f0 f1 y0 y1 y2 y3 y4 g0 g1 g2 g3 g4 c0 c1 d0 d1 d2 d3 d4
      obtain ⟨wf, hwf⟩ : ∃ wf, wf = (((((((w2.setCell ⟨X + 1, 0, none⟩ (.int .u16 tag)).setCell ⟨X + 1, 1, none⟩ (.slice (some ⟨lb, lo, none⟩) m c')).setCell ⟨X + 1 + 1, 0, none⟩ (.string x.id)).setCell ⟨X + 1 + 1, 1, none⟩ (.int .u32 x.idx)).setCell ⟨X + 1 + 1, 2, none⟩ (.int .i64 x.val)).setCell ⟨X + 1 + 1, 3, none⟩ (.string x.script)).setCell ⟨X + 1 + 1, 4, none⟩ (.int .i64 x.ht)).drew := ⟨_, rfl⟩
      rw [← hwf]
      have hend := tk_end HST.out (.slice (some ⟨lb, lo, none⟩) m c') (.string x.id) (.int .u32 x.idx) (.int .i64 x.val) (.string x.script) (.int .i64 x.ht) hwf
      clear hwf
      obtain ⟨hq1, hq2, hbf, hoth⟩ := hend
      have r0 : wf.cell? ⟨X + 1, 0, none⟩ = some (.int .u16 tag) := cell_at hq1
      have r1 : wf.cell? ⟨X + 1, 1, none⟩ = some (.slice (some ⟨lb, lo, none⟩) m c') := cell_at hq1
      have s0 : wf.cell? ⟨X + 1 + 1, 0, none⟩ = some (.string x.id) := cell_at hq2
      have s1 : wf.cell? ⟨X + 1 + 1, 1, none⟩ = some (.int .u32 x.idx) := cell_at hq2
      have s2 : wf.cell? ⟨X + 1 + 1, 2, none⟩ = some (.int .i64 x.val) := cell_at hq2
      have s3 : wf.cell? ⟨X + 1 + 1, 3, none⟩ = some (.string x.script) := cell_at hq2
      have s4 : wf.cell? ⟨X + 1 + 1, 4, none⟩ = some (.int .i64 x.ht) := cell_at hq2
      have hfin : SlAt rpLs wf (.slice (some ⟨lb, lo, none⟩) m c') _ := HSV.out.below hbf
      refine bodyPost_ret (v := .tuple #[.agg #[.int .u16 tag, .slice (some ⟨lb, lo, none⟩) m c'], .agg #[.string x.id, .int .u32 x.idx, .int .i64 x.val, .string x.script, .int .i64 x.ht], .int .i64 0]) (by simp [results, Try.results20, go_sem, r0, r1, s0, s1, s2, s3, s4]) rfl ?_
      rw [HR.out]
      exact ⟨_, rfl, hfin, hbf, .inl rfl⟩
  | none =>
    have HR2 := Lib.hid (HR1.out.trans (by rw [hf]))
    dsimp only at HR2
    clear hf
    unfold idxV
    dsimp only
    have c0 : w1.cell? ⟨X, 0, none⟩ = some (.int .u16 tag) := cell_at HST.out.b0
    go_wp2_with fail
    refine (rscript_any tag ht w1).mono ?_
    rintro e w2 ⟨rfl, hxc⟩
    have HST := Lib.hid (HST.out.below hxc)
    clear hxc c0
    obtain ⟨own, hown⟩ : ∃ own, own = scrT tag := ⟨_, rfl⟩
    rw [← hown] at HR2 ⊢
    clear hown
    go_wp2_with fail
    go_loopg [15, 17] n (fun g bi i wr => ∃ (k : Nat) (bo : Option Nat), g = n - k ∧ k ≤ n ∧ i = .int .i64 k ∧ bi = .int .i64 (idxV bo) ∧ (∀ j, bo = some j → j < n) ∧ (l.take k).foldl (pickB own need (takenL L)) none = bo.bind (fun j => l[j]?) ∧ TkS w X tag (.slice a' m c') wr)
    case atStart => exact ⟨0, none, rfl, by omega, rfl, rfl, (fun j hj => by cases hj), rfl, HST.out⟩
    case round =>
      clear HST
      rename World => wo
      obtain ⟨k, bo, hgk, hk, rfl, rfl, hbo, hacc, hst⟩ := hrel
      have HGK := Lib.hid hgk
      have HBO := Lib.hid hbo
      have HACC := Lib.hid hacc
      have HST := Lib.hid hst
      clear hgk hbo hacc hst
      by_cases hlt : k < n
      · obtain ⟨sb, so, x, hsb, hx, hxo, d0, d1, d2, d3, d4⟩ := (HSL.out.below HST.out.bel).en hlt
        subst hsb
        have HX := Lib.hid hx
        have hv1 := hxo.val
        have hxi := hxo.idx
        clear hx hxo d4
        obtain ⟨tk, htk⟩ : ∃ tk, tk = takenL L x.pt := ⟨_, rfl⟩
        have HTK := Lib.hid htk
        clear htk
        have c0 : wo.cell? ⟨X, 0, none⟩ = some (.int .u16 tag) := cell_at HST.out.b0
        have c1 : wo.cell? ⟨X, 1, none⟩ = some (.slice a' m c') := cell_at HST.out.b0
        go_upto_region 16 with fail
        obtain ⟨C, hC⟩ : ∃ C : World → Prop, C = fun w' => Below wo.heap.size wo w' := ⟨_, rfl⟩
        have kc0 := kin_cell hC c0
        have kc1 := kin_cell hC c1
        have kd0 := kin_cell hC d0
        have kd1 := kin_cell hC d1
        have QNt := Lib.hid (kin_call hC fun y h => (HTK.out ▸ rtaken_any tag _ L x.pt y ((HSV.out.below HST.out.bel).below h) hxi))
        have HC := Lib.hid hC
        clear hC
        refine wp_region_kin C (by kernel_rfl) (by kernel_rfl) (by rw [HC.out]; exact ⟨rfl, rfl, rfl, Nat.le_refl _, fun _ _ => rfl⟩) ?_
        intro hne
        repeat (first | (go_big_quiet_step ((rename_i y; go_at_call 33; exact Calls.kin (QNt.out y) (fun w' h => h)))) | (quiet_step ((rename_i y; go_at_call 33; exact Calls.kin (QNt.out y) (fun w' h => h)))))
        refine wpQuiet_nil ?_
        intro _ hw'
        obtain ⟨kx, hw''⟩ := hw'
        subst hw''
        obtain ⟨w3, hxc⟩ := kx
        rw [HC.out] at hxc
        clear HC hne kc0 kc1 kd0 kd1
        have HST := Lib.hid (HST.out.below hxc)
        replace d0 := below_cells hxc _ _ d0
        replace d1 := below_cells hxc _ _ d1
        replace d2 := below_cells hxc _ _ d2
        replace d3 := below_cells hxc _ _ d3
        clear hxc c0 c1
        by_cases hs : x.script = own
        rotate_left
        · have hbe := vbytes_ne hs
          have HF := Lib.hid (fold_skip HACC.out HX.out (fits_no1 (need := need) (taken := takenL L) hs))
          clear hs
          go_wp2_with fail
          go_roundg (n - (k + 1))
          case measure => have := HGK.out; omega
          case rel => exact ⟨k + 1, bo, rfl, by omega, by go_num, rfl, HBO.out, HF.out, HST.out⟩
        have hbe : (x.script.toList == own.toList) = true := by rw [hs]; exact beq_self_eq_true _
        have hbe' : (x.script.toList != own.toList) = false := by rw [hs]; simp
        by_cases hv : x.val < need
        · have HS := Lib.hid hs
          have HF := Lib.hid (fold_skip HACC.out HX.out (fits_no2 (script := own) (taken := takenL L) hv))
          clear hs
          go_wp2_with fail
          go_roundg (n - (k + 1))
          case measure => have := HGK.out; omega
          case rel => exact ⟨k + 1, bo, rfl, by omega, by go_num, rfl, HBO.out, HF.out, HST.out⟩
        cases tk
        rotate_left
        · have HS := Lib.hid hs
          have HF := Lib.hid (fold_skip HACC.out HX.out (fits_no3 (script := own) (need := need) HTK.out.symm))
          clear hs
          go_wp2_with fail
          go_roundg (n - (k + 1))
          case measure => have := HGK.out; omega
          case rel => exact ⟨k + 1, bo, rfl, by omega, by go_num, rfl, HBO.out, HF.out, HST.out⟩
        have HF := Lib.hid (fold_take HACC.out HX.out (fits_yes hs hv HTK.out.symm))
        clear hs
        cases bo with
        | none =>
          have HF2 := Lib.hid (HF.out.trans (show upB none x = (some k).bind (fun j => l[j]?) from HX.out.symm))
          unfold idxV
          dsimp only
          go_upto_region 18 with fail
          obtain ⟨C, hC⟩ : ∃ C : World → Prop, C = fun w' => Below w3.heap.size w3 w' := ⟨_, rfl⟩
          have kd0 := kin_cell hC d0
          have kd1 := kin_cell hC d1
          have kd2 := kin_cell hC d2
          have kd3 := kin_cell hC d3
          have HC := Lib.hid hC
          clear hC
          refine wp_region_kin C (by kernel_rfl) (by kernel_rfl) (by rw [HC.out]; exact ⟨rfl, rfl, rfl, Nat.le_refl _, fun _ _ => rfl⟩) ?_
          intro hne
          repeat (first | (go_big_quiet_step (fail)) | (quiet_step (fail)))
          refine wpQuiet_nil ?_
          intro _ hw'
          obtain ⟨kx, hw''⟩ := hw'
          subst hw''
          obtain ⟨w4, hxc⟩ := kx
          rw [HC.out] at hxc
          clear HC hne kd0 kd1 kd2 kd3
          have HST := Lib.hid (HST.out.below hxc)
          clear hxc d0 d1 d2 d3
          go_wp2_with fail
          go_roundg (n - (k + 1))
          case measure => have := HGK.out; omega
          case rel => exact ⟨k + 1, some k, rfl, by omega, by go_num, rfl, (fun j hj => by cases hj; exact hlt), HF2.out, HST.out⟩
        | some j =>
          have hjn := HBO.out j rfl
          obtain ⟨sb', so', yc, hsb', hy, hyo, e0, e1, e2, -, -⟩ := (HSL.out.below HST.out.bel).en hjn
          obtain ⟨rfl, rfl⟩ : sb = sb' ∧ so = so' := by simpa using hsb'
          have HY := Lib.hid hy
          have hv2 := hyo.val
          clear hy hyo hsb'
          have HF1 := Lib.hid (HF.out.trans (show upB ((some j).bind fun j => l[j]?) x = if betterB x yc then some x else some yc by show upB (l[j]?) x = _; rw [HY.out]; rfl))
          unfold idxV
          dsimp only
          obtain ⟨jz, hjz⟩ : ∃ jz, jz = (j : Int) := ⟨_, rfl⟩
          go_upto_region 18 with fail
          by_cases hlv : x.val < yc.val
          · have HF2 := Lib.hid (HF1.out.trans (show (if betterB x yc then some x else some yc) = (some k).bind (fun j => l[j]?) by rw [if_pos (by unfold betterB; rw [if_neg (by omega)]; exact decide_eq_true hlv)]; exact HX.out.symm))
            obtain ⟨C, hC⟩ : ∃ C : World → Prop, C = fun w' => Below w3.heap.size w3 w' := ⟨_, rfl⟩
            have kd0 := kin_cell hC d0
            have kd1 := kin_cell hC d1
            have kd2 := kin_cell hC d2
            have kd3 := kin_cell hC d3
            have ke0 := kin_cell hC e0
            have ke1 := kin_cell hC e1
            have ke2 := kin_cell hC e2
            have HC := Lib.hid hC
            clear hC
            refine wp_region_kin C (by kernel_rfl) (by kernel_rfl) (by rw [HC.out]; exact ⟨rfl, rfl, rfl, Nat.le_refl _, fun _ _ => rfl⟩) ?_
            intro hne
            repeat (first | (go_big_quiet_step (fail)) | (quiet_step (fail)))
            refine wpQuiet_nil ?_
            intro _ hw'
            obtain ⟨kx, hw''⟩ := hw'
            subst hw''
            obtain ⟨w4, hxc⟩ := kx
            rw [HC.out] at hxc
            clear HC hne kd0 kd1 kd2 kd3 ke0 ke1 ke2
            have HST := Lib.hid (HST.out.below hxc)
            clear hxc d0 d1 d2 d3 e0 e1 e2
            go_wp2_with fail
            go_roundg (n - (k + 1))
            case measure => have := HGK.out; omega
            case rel => exact ⟨k + 1, some k, rfl, by omega, by go_num, rfl, (fun j hj => by cases hj; exact hlt), HF2.out, HST.out⟩
          obtain ⟨C, hC⟩ : ∃ C : World → Prop, C = fun w' => Below w3.heap.size w3 w' := ⟨_, rfl⟩
          have kd0 := kin_cell hC d0
          have kd1 := kin_cell hC d1
          have kd2 := kin_cell hC d2
          have kd3 := kin_cell hC d3
          have ke0 := kin_cell hC e0
          have ke1 := kin_cell hC e1
          have ke2 := kin_cell hC e2
          have HC := Lib.hid hC
          clear hC
          refine wp_region_kin C (by kernel_rfl) (by kernel_rfl) (by rw [HC.out]; exact ⟨rfl, rfl, rfl, Nat.le_refl _, fun _ _ => rfl⟩) ?_
          intro hne
          repeat (first | (go_big_quiet_step (fail)) | (quiet_step (fail)))
          refine wpQuiet_nil ?_
          intro _ hw'
          obtain ⟨kx, hw''⟩ := hw'
          subst hw''
          obtain ⟨w4, hxc⟩ := kx
          rw [HC.out] at hxc
          clear HC hne kd0 kd1 kd2 kd3 ke0 ke1 ke2
          have HST := Lib.hid (HST.out.below hxc)
          replace d0 := below_cells hxc _ _ d0
          replace d1 := below_cells hxc _ _ d1
          replace d2 := below_cells hxc _ _ d2
          replace e0 := below_cells hxc _ _ e0
          replace e1 := below_cells hxc _ _ e1
          replace e2 := below_cells hxc _ _ e2
          clear hxc d3
          obtain ⟨lp, hlp⟩ : ∃ lp, lp = lessPt x.pt yc.pt := ⟨_, rfl⟩
          have HLP := Lib.hid hlp
          clear hlp
          go_upto_region 20 with fail
          obtain ⟨C, hC⟩ : ∃ C : World → Prop, C = fun w' => Below w4.heap.size w4 w' := ⟨_, rfl⟩
          have kd0 := kin_cell hC d0
          have kd1 := kin_cell hC d1
          have kd2 := kin_cell hC d2
          have ke0 := kin_cell hC e0
          have ke1 := kin_cell hC e1
          have ke2 := kin_cell hC e2
          have QNl := Lib.hid (kin_call hC fun y h => (HLP.out ▸ rless_any x.pt yc.pt y))
          have HC := Lib.hid hC
          clear hC
          refine wp_region_kin C (by kernel_rfl) (by kernel_rfl) (by rw [HC.out]; exact ⟨rfl, rfl, rfl, Nat.le_refl _, fun _ _ => rfl⟩) ?_
          intro hne
          repeat (first | (go_big_quiet_step ((rename_i y; go_at_call 37; exact Calls.kin (QNl.out y) (fun w' h => h)))) | (quiet_step ((rename_i y; go_at_call 37; exact Calls.kin (QNl.out y) (fun w' h => h)))))
          refine wpQuiet_nil ?_
          intro _ hw'
          obtain ⟨kx, hw''⟩ := hw'
          subst hw''
          obtain ⟨w5, hxc⟩ := kx
          rw [HC.out] at hxc
          clear HC hne kd0 kd1 kd2 ke0 ke1 ke2
          have HST := Lib.hid (HST.out.below hxc)
          replace d0 := below_cells hxc _ _ d0
          replace d1 := below_cells hxc _ _ d1
          replace d2 := below_cells hxc _ _ d2
          replace e0 := below_cells hxc _ _ e0
          replace e1 := below_cells hxc _ _ e1
          replace e2 := below_cells hxc _ _ e2
          clear hxc
          by_cases hev : x.val = yc.val
          · cases lp
            · have HE := Lib.hid hev
              have HF2 := Lib.hid (HF1.out.trans (show (if betterB x yc then some x else some yc) = (some j).bind (fun j => l[j]?) by rw [if_neg (by unfold betterB; rw [if_pos HE.out, ← HLP.out]; decide)]; exact HY.out.symm))
              go_upto_region 21 with fail
              obtain ⟨C, hC⟩ : ∃ C : World → Prop, C = fun w' => Below w5.heap.size w5 w' := ⟨_, rfl⟩
              have kd0 := kin_cell hC d0
              have kd1 := kin_cell hC d1
              have kd2 := kin_cell hC d2
              have ke0 := kin_cell hC e0
              have ke1 := kin_cell hC e1
              have ke2 := kin_cell hC e2
              have HC := Lib.hid hC
              clear hC
              refine wp_region_kin C (by kernel_rfl) (by kernel_rfl) (by rw [HC.out]; exact ⟨rfl, rfl, rfl, Nat.le_refl _, fun _ _ => rfl⟩) ?_
              intro hne
              repeat (first | (go_big_quiet_step (fail)) | (quiet_step (fail)))
              refine wpQuiet_nil ?_
              intro _ hw'
              obtain ⟨kx, hw''⟩ := hw'
              subst hw''
              obtain ⟨w6, hxc⟩ := kx
              rw [HC.out] at hxc
              clear HC hne kd0 kd1 kd2 ke0 ke1 ke2
              have HST := Lib.hid (HST.out.below hxc)
              clear hxc d0 d1 d2 e0 e1 e2
              go_wp2_with fail
              go_roundg (n - (k + 1))
              case measure => have := HGK.out; omega
              case rel => exact ⟨k + 1, some j, rfl, by omega, by go_num, rfl, HBO.out, HF2.out, HST.out⟩
            · have HE := Lib.hid hev
              have HF2 := Lib.hid (HF1.out.trans (show (if betterB x yc then some x else some yc) = (some k).bind (fun j => l[j]?) by rw [if_pos (by unfold betterB; rw [if_pos HE.out, ← HLP.out])]; exact HX.out.symm))
              go_upto_region 21 with fail
              obtain ⟨C, hC⟩ : ∃ C : World → Prop, C = fun w' => Below w5.heap.size w5 w' := ⟨_, rfl⟩
              have kd0 := kin_cell hC d0
              have kd1 := kin_cell hC d1
              have kd2 := kin_cell hC d2
              have ke0 := kin_cell hC e0
              have ke1 := kin_cell hC e1
              have ke2 := kin_cell hC e2
              have HC := Lib.hid hC
              clear hC
              refine wp_region_kin C (by kernel_rfl) (by kernel_rfl) (by rw [HC.out]; exact ⟨rfl, rfl, rfl, Nat.le_refl _, fun _ _ => rfl⟩) ?_
              intro hne
              repeat (first | (go_big_quiet_step (fail)) | (quiet_step (fail)))
              refine wpQuiet_nil ?_
              intro _ hw'
              obtain ⟨kx, hw''⟩ := hw'
              subst hw''
              obtain ⟨w6, hxc⟩ := kx
              rw [HC.out] at hxc
              clear HC hne kd0 kd1 kd2 ke0 ke1 ke2
              have HST := Lib.hid (HST.out.below hxc)
              clear hxc d0 d1 d2 e0 e1 e2
              go_wp2_with fail
              go_roundg (n - (k + 1))
              case measure => have := HGK.out; omega
              case rel => exact ⟨k + 1, some k, rfl, by omega, by go_num, rfl, (fun j hj => by cases hj; exact hlt), HF2.out, HST.out⟩
          · have HE := Lib.hid hev
            have hev2 : (x.val == yc.val) = false := by simpa using hev
            have HF2 := Lib.hid (HF1.out.trans (show (if betterB x yc then some x else some yc) = (some j).bind (fun j => l[j]?) by rw [if_neg (by unfold betterB; rw [if_neg HE.out]; simpa using hlv)]; exact HY.out.symm))
            go_upto_region 21 with fail
            obtain ⟨C, hC⟩ : ∃ C : World → Prop, C = fun w' => Below w5.heap.size w5 w' := ⟨_, rfl⟩
            have kd0 := kin_cell hC d0
            have kd1 := kin_cell hC d1
            have kd2 := kin_cell hC d2
            have ke0 := kin_cell hC e0
            have ke1 := kin_cell hC e1
            have ke2 := kin_cell hC e2
            have HC := Lib.hid hC
            clear hC
            refine wp_region_kin C (by kernel_rfl) (by kernel_rfl) (by rw [HC.out]; exact ⟨rfl, rfl, rfl, Nat.le_refl _, fun _ _ => rfl⟩) ?_
            intro hne
            repeat (first | (go_big_quiet_step (fail)) | (quiet_step (fail)))
            refine wpQuiet_nil ?_
            intro _ hw'
            obtain ⟨kx, hw''⟩ := hw'
            subst hw''
            obtain ⟨w6, hxc⟩ := kx
            rw [HC.out] at hxc
            clear HC hne kd0 kd1 kd2 ke0 ke1 ke2
            have HST := Lib.hid (HST.out.below hxc)
            clear hxc d0 d1 d2 e0 e1 e2
            go_wp2_with fail
            go_roundg (n - (k + 1))
            case measure => have := HGK.out; omega
            case rel => exact ⟨k + 1, some j, rfl, by omega, by go_num, rfl, HBO.out, HF2.out, HST.out⟩
      · obtain rfl : k = n := by omega
        have HC := Lib.hid (show chooseL own need (takenL L) l = bo.bind (fun j => l[j]?) by have h := HACC.out; rw [HN.out, List.take_length] at h; exact h)
        clear HACC hlt hk
        cases bo with
        | none =>
          have HR := Lib.hid (HR2.out.trans (show _ = (L, zEn, 8) by rw [HC.out]; rfl))
          unfold idxV
          dsimp only
          have x0 : wo.cell? ⟨X + 1, 0, none⟩ = some (.int .u16 0) := cell_at HST.out.b1
          have f0 : wo.frozen? ⟨X + 1, 0, none⟩ = false := free_at HST.out.b1
          have x1 : wo.cell? ⟨X + 1, 1, none⟩ = some (.slice none 0 0) := cell_at HST.out.b1
          have f1 : wo.frozen? ⟨X + 1, 1, none⟩ = false := free_at HST.out.b1
          have y0 : wo.cell? ⟨X + 1 + 1, 0, none⟩ = some (.string ⟨#[]⟩) := cell_at HST.out.b2
          have g0 : wo.frozen? ⟨X + 1 + 1, 0, none⟩ = false := free_at HST.out.b2
          have y1 : wo.cell? ⟨X + 1 + 1, 1, none⟩ = some (.int .u32 0) := cell_at HST.out.b2
          have g1 : wo.frozen? ⟨X + 1 + 1, 1, none⟩ = false := free_at HST.out.b2
          have y2 : wo.cell? ⟨X + 1 + 1, 2, none⟩ = some (.int .i64 0) := cell_at HST.out.b2
          have g2 : wo.frozen? ⟨X + 1 + 1, 2, none⟩ = false := free_at HST.out.b2
          have y3 : wo.cell? ⟨X + 1 + 1, 3, none⟩ = some (.string ⟨#[]⟩) := cell_at HST.out.b2
          have g3 : wo.frozen? ⟨X + 1 + 1, 3, none⟩ = false := free_at HST.out.b2
          have y4 : wo.cell? ⟨X + 1 + 1, 4, none⟩ = some (.int .i64 0) := cell_at HST.out.b2
          have g4 : wo.frozen? ⟨X + 1 + 1, 4, none⟩ = false := free_at HST.out.b2
          have c0 : wo.cell? ⟨X, 0, none⟩ = some (.int .u16 tag) := cell_at HST.out.b0
          have c1 : wo.cell? ⟨X, 1, none⟩ = some (.slice a' m c') := cell_at HST.out.b0
          have z0 : wo.cell? ⟨X + 1 + 1 + 1, 0, none⟩ = some (.string ⟨#[]⟩) := cell_at HST.out.b3
          have z1 : wo.cell? ⟨X + 1 + 1 + 1, 1, none⟩ = some (.int .u32 0) := cell_at HST.out.b3
          have z2 : wo.cell? ⟨X + 1 + 1 + 1, 2, none⟩ = some (.int .i64 0) := cell_at HST.out.b3
          have z3 : wo.cell? ⟨X + 1 + 1 + 1, 3, none⟩ = some (.string ⟨#[]⟩) := cell_at HST.out.b3
          have z4 : wo.cell? ⟨X + 1 + 1 + 1, 4, none⟩ = some (.int .i64 0) := cell_at HST.out.b3
          go_upto_region 24 with fail
          go_region
          go_wp2_with fail
          clear x0 x1 f0 f1 y0 y1 y2 y3 y4 g0 g1 g2 g3 g4 c0 c1 z0 z1 z2 z3 z4
          obtain ⟨wf, hwf⟩ : ∃ wf, wf = (((((((wo.setCell ⟨X + 1, 0, none⟩ (.int .u16 tag)).setCell ⟨X + 1, 1, none⟩ (.slice a' m c')).setCell ⟨X + 1 + 1, 0, none⟩ (.string ⟨#[]⟩)).setCell ⟨X + 1 + 1, 1, none⟩ (.int .u32 0)).setCell ⟨X + 1 + 1, 2, none⟩ (.int .i64 0)).setCell ⟨X + 1 + 1, 3, none⟩ (.string ⟨#[]⟩)).setCell ⟨X + 1 + 1, 4, none⟩ (.int .i64 0)).drew := ⟨_, rfl⟩
          rw [← hwf]
          have hend := tk_end HST.out (.slice a' m c') (.string ⟨#[]⟩) (.int .u32 0) (.int .i64 0) (.string ⟨#[]⟩) (.int .i64 0) hwf
          clear hwf
          obtain ⟨hq1, hq2, hbf, hoth⟩ := hend
          have r0 : wf.cell? ⟨X + 1, 0, none⟩ = some (.int .u16 tag) := cell_at hq1
          have r1 : wf.cell? ⟨X + 1, 1, none⟩ = some (.slice a' m c') := cell_at hq1
          have s0 : wf.cell? ⟨X + 1 + 1, 0, none⟩ = some (.string ⟨#[]⟩) := cell_at hq2
          have s1 : wf.cell? ⟨X + 1 + 1, 1, none⟩ = some (.int .u32 0) := cell_at hq2
          have s2 : wf.cell? ⟨X + 1 + 1, 2, none⟩ = some (.int .i64 0) := cell_at hq2
          have s3 : wf.cell? ⟨X + 1 + 1, 3, none⟩ = some (.string ⟨#[]⟩) := cell_at hq2
          have s4 : wf.cell? ⟨X + 1 + 1, 4, none⟩ = some (.int .i64 0) := cell_at hq2
          have hfin : SlAt rpLs wf (.slice a' m c') _ := HSV.out.below hbf
          refine bodyPost_ret (v := .tuple #[.agg #[.int .u16 tag, .slice a' m c'], .agg #[.string ⟨#[]⟩, .int .u32 0, .int .i64 0, .string ⟨#[]⟩, .int .i64 0], .int .i64 8]) (by simp [results, Try.results20, go_sem, r0, r1, s0, s1, s2, s3, s4]) rfl ?_
          rw [HR.out]
          exact ⟨_, rfl, hfin, hbf, .inl rfl⟩
        | some j =>
          have hjn := HBO.out j rfl
          obtain ⟨sb, so, x, hsb, hx, hxo, d0, d1, d2, d3, d4⟩ := (HSL.out.below HST.out.bel).en hjn
          have hold := HSL.out.old hjn hsb
          rw [← HST.out.base] at hold
          have n1 : sb ≠ X + 1 := by omega
          have n2 : sb ≠ X + 1 + 1 := by omega
          have n3 : X + 1 ≠ sb := by omega
          have n4 : X + 1 + 1 ≠ sb := by omega
          clear hold
          subst hsb
          have HX := Lib.hid hx
          have HXO := Lib.hid hxo
          obtain ⟨LL, hLL⟩ : ∃ LL, LL = insL key x.pt L := ⟨_, rfl⟩
          have HWI := Lib.hid (fun (y : World) (hy : Below wo.heap.size wo y) => hLL ▸ rwith_any tag _ L key x.pt y ((HSV.out.below HST.out.bel).below hy) ⟨HKEY.out, HXO.out.id, HXO.out.idx⟩ (by rw [← HM.out]; exact HLL.out))
          have HR := Lib.hid (HR2.out.trans (show _ = (LL, x, 0) by rw [HC.out, Option.bind_some, hx, hLL]))
          clear hx hxo hLL
          unfold idxV
          dsimp only
          have c0 : wo.cell? ⟨X, 0, none⟩ = some (.int .u16 tag) := cell_at HST.out.b0
          have c1 : wo.cell? ⟨X, 1, none⟩ = some (.slice a' m c') := cell_at HST.out.b0
          go_upto_region 25 with fail
          have hx3 : X + 1 + 1 + 1 < wo.heap.size := lt_of HST.out.b3
          refine wp_region_made (RTk tag m k j a' c' c ⟨sb, so, none⟩ key x.pt LL) 9 (by kernel_rfl) (by kernel_rfl) (by kernel_rfl) (by kernel_rfl) (by decide) (by kernel_rfl) ?_ ?_
          · intro i o hi ho L xs lo hi' wr hmd hni hpre
            obtain ⟨x0, x1, x2, x3, x4, x5, x6, x7, x8, rfl⟩ : ∃ x0 x1 x2 x3 x4 x5 x6 x7 x8, xs = [x0, x1, x2, x3, x4, x5, x6, x7, x8] := by match xs, hmd.len with | [x0, x1, x2, x3, x4, x5, x6, x7, x8], _ => exact ⟨_, _, _, _, _, _, _, _, _, rfl⟩
            match i, ho with
            | 0, ho =>
              obtain rfl := Option.some.inj ho
              have t0 := below_cells hmd.bel _ _ c0
              have t1 := below_cells hmd.bel _ _ c1
              have kk := fun lx ox ax => @step_pure Try.prog (RTk tag m k j a' c' c ⟨sb, so, none⟩ key x.pt LL) lx [x0, x1, x2, x3, x4, x5, x6, x7, x8] ox ax wr 0 (.agg #[.int .u16 tag, .slice a' m c'])
              refine kk _ _ _ ?_ ?_
              · simp [putAll, execOp, go_sem, t0, t1]
              · exact rfl
            | 1, ho =>
              obtain rfl := Option.some.inj ho
              have kk := fun lx ox ax => @step_pure Try.prog (RTk tag m k j a' c' c ⟨sb, so, none⟩ key x.pt LL) lx [x0, x1, x2, x3, x4, x5, x6, x7, x8] ox ax wr 1 (.int .i64 key)
              refine kk _ _ _ ?_ ?_
              · kernel_rfl
              · exact rfl
            | 2, ho =>
              obtain rfl := Option.some.inj ho
              have kk := fun lx ox ax => @step_pure Try.prog (RTk tag m k j a' c' c ⟨sb, so, none⟩ key x.pt LL) lx [x0, x1, x2, x3, x4, x5, x6, x7, x8] ox ax wr 2 (.slice (some ⟨sb, so, none⟩) k c)
              refine kk _ _ _ ?_ ?_
              · kernel_rfl
              · exact rfl
            | 3, ho =>
              obtain rfl := Option.some.inj ho
              have kk := fun lx ox ax => @step_pure Try.prog (RTk tag m k j a' c' c ⟨sb, so, none⟩ key x.pt LL) lx [x0, x1, x2, x3, x4, x5, x6, x7, x8] ox ax wr 3 (.int .i64 j)
              refine kk _ _ _ ?_ ?_
              · kernel_rfl
              · exact rfl
            | 4, ho =>
              obtain rfl := Option.some.inj ho
              have h_2 : x2 = .slice (some ⟨sb, so, none⟩) k c := hmd.rel 2 (hpre 2 (by kernel_rfl))
              subst h_2
              have h_3 : x3 = .int .i64 j := hmd.rel 3 (hpre 3 (by kernel_rfl))
              subst h_3
              have kk := fun lx ox ax => @step_pure Try.prog (RTk tag m k j a' c' c ⟨sb, so, none⟩ key x.pt LL) lx [x0, x1, (.slice (some ⟨sb, so, none⟩) k c), (.int .i64 j), x4, x5, x6, x7, x8] ox ax wr 4 (.pointer (some ⟨sb, so + j * 5, none⟩))
              refine kk _ _ _ ?_ ?_
              · simp [putAll, execOp, go_sem, hjn]
              · exact rfl
            | 5, ho =>
              obtain rfl := Option.some.inj ho
              have h_4 : x4 = .pointer (some ⟨sb, so + j * 5, none⟩) := hmd.rel 4 (hpre 4 (by kernel_rfl))
              subst h_4
              have kk := fun lx ox ax => @step_pure Try.prog (RTk tag m k j a' c' c ⟨sb, so, none⟩ key x.pt LL) lx [x0, x1, x2, x3, (.pointer (some ⟨sb, so + j * 5, none⟩)), x5, x6, x7, x8] ox ax wr 5 (.pointer (some ⟨sb, so + j * 5, none⟩))
              refine kk _ _ _ ?_ ?_
              · simp [putAll, execOp, go_sem]
              · exact rfl
            | 6, ho =>
              obtain rfl := Option.some.inj ho
              have h_5 : x5 = .pointer (some ⟨sb, so + j * 5, none⟩) := hmd.rel 5 (hpre 5 (by kernel_rfl))
              subst h_5
              have t0 := below_cells hmd.bel _ _ d0
              have t1 := below_cells hmd.bel _ _ d1
              have kk := fun lx ox ax => @step_pure Try.prog (RTk tag m k j a' c' c ⟨sb, so, none⟩ key x.pt LL) lx [x0, x1, x2, x3, x4, (.pointer (some ⟨sb, so + j * 5, none⟩)), x6, x7, x8] ox ax wr 6 (.agg #[.string x.id, .int .u32 x.idx])
              refine kk _ _ _ ?_ ?_
              · simp [putAll, execOp, go_sem, t0, t1]
              · exact rfl
            | 7, ho =>
              obtain rfl := Option.some.inj ho
              have h_0 : x0 = .agg #[.int .u16 tag, .slice a' m c'] := hmd.rel 0 (hpre 0 (by kernel_rfl))
              subst h_0
              have h_1 : x1 = .int .i64 key := hmd.rel 1 (hpre 1 (by kernel_rfl))
              subst h_1
              have h_6 : x6 = .agg #[.string x.id, .int .u32 x.idx] := hmd.rel 6 (hpre 6 (by kernel_rfl))
              subst h_6
              have kk := fun lx ox ax => @step_call Try.prog (RTk tag m k j a' c' c ⟨sb, so, none⟩ key x.pt LL) lx [(.agg #[.int .u16 tag, .slice a' m c']), (.int .i64 key), x2, x3, x4, x5, (.agg #[.string x.id, .int .u32 x.idx]), x7, x8] ox ax wr 7 _ _ _ (HWI.out wr hmd.bel)
              refine kk _ _ _ ?_ ?_
              · kernel_rfl
              · exact fun e w' ⟨u, he, hown, hb⟩ => ⟨_, he, hb, u, rfl, fun b hb => hown.row.lt b hb, hown.base (Nat.zero_le _)⟩
            | 8, ho =>
              obtain rfl := Option.some.inj ho
              have kk := fun lx ox ax => @step_new Try.prog (RTk tag m k j a' c' c ⟨sb, so, none⟩ key x.pt LL) lx [x0, x1, x2, x3, x4, x5, x6, x7, x8] ox ax wr 8 (.pointer (some ⟨wr.heap.size, 0, none⟩)) (.cells #[.int .u16 0, .slice none 0 0] 61)
              refine kk _ _ _ ?_ ?_
              · kernel_rfl
              · exact ⟨_, Nat.le_refl _, by simp, rfl, heap_alloc_new wr _⟩
            | q + 9, ho => omega
          · intro xs lo hi wr hmd
            obtain ⟨x0, x1, x2, x3, x4, x5, x6, x7, x8, rfl⟩ : ∃ x0 x1 x2 x3 x4 x5 x6 x7 x8, xs = [x0, x1, x2, x3, x4, x5, x6, x7, x8] := by match xs, hmd.len with | [x0, x1, x2, x3, x4, x5, x6, x7, x8], _ => exact ⟨_, _, _, _, _, _, _, _, _, rfl⟩
            simp only [putAll]
            change wpList _ _ _ (_ :: []) _ _
            obtain ⟨Q, hqlo, hqhi, e8, hq⟩ : ∃ b, lo 8 ≤ b ∧ b < hi 8 ∧ x8 = .pointer (some ⟨b, 0, none⟩) ∧ wr.heap[b]? = some (.cells #[.int .u16 0, .slice none 0 0] 61 (0, 0)) := hmd.rel 8 (by decide)
            subst e8
            obtain ⟨u, e7, hub, hown⟩ : ∃ u, x7 = .agg #[.int .u16 tag, u] ∧ (∀ b, u.ownBlock = some b → lo 7 ≤ b ∧ b < hi 7) ∧ LsOwn 0 wr u (LL) := hmd.rel 7 (by decide)
            subst e7
            have hap := hmd.apart 7 8 (by decide) (by decide) (by decide)
            have hl7 := hmd.lohi 7 (by decide)
            have hl8 := hmd.lohi 8 (by decide)
            obtain ⟨ua, uc, hue, -, -⟩ := ownsRow_shape hown.row
            obtain ⟨ul, hul⟩ : ∃ q, q = (LL).length := ⟨_, rfl⟩
            rw [← hul] at hue
            subst hue
            clear hul
            have HSTR := Lib.hid (HST.out.below hmd.bel)
            obtain ⟨wq, hwq⟩ : ∃ wq, wq = wr.setRow Q #[.int .u16 tag, .slice ua ul uc] := ⟨_, rfl⟩
            have k1 : wq.heap[Q]? = _ := hwq ▸ setRow_heap wr Q _ #[.int .u16 tag, .slice ua ul uc] _ _ hq
            have k2 : ∀ b, b ≠ Q → wq.heap[b]? = wr.heap[b]? := fun b hb => hwq ▸ setRow_other wr Q b _ hb
            have hwo : wo.heap.size ≤ Q := by omega
            have hbq : Below wo.heap.size wo wq := hwq ▸ brow hmd.bel hwo _
            have HST := Lib.hid (HST.out.below hbq)
            have HOWN := Lib.hid (show LsOwn 0 wq (.slice ua ul uc) (LL) from ⟨ownsRow_of_block hown.row fun b hb => k2 b (fun e => by have := hub b hb; omega), hown.ok⟩)
            have HUB := Lib.hid (show ∀ b, (Value.slice ua ul uc).ownBlock = some b → X + 1 + 1 + 1 < b from fun b hb => by have := hub b hb; omega)
            have HK1 := Lib.hid k1
            have HQ := Lib.hid hq
            replace d0 := below_cells hbq _ _ d0
            replace d1 := below_cells hbq _ _ d1
            replace d2 := below_cells hbq _ _ d2
            replace d3 := below_cells hbq _ _ d3
            replace d4 := below_cells hbq _ _ d4
            clear hmd k1 k2 hq hown hub hap hl7 hl8 hqlo hqhi hwo hbq c0 c1 HSTR hx3
            refine wpList_store_row ?_ 61 (.tmp 20) (.tmp 154) ?_ Q #[.int .u16 tag, .slice ua ul uc] ?_ ?_ 61 _ HQ.out ?_ ?_ ?_ ?_
            · rfl
            · rfl
            · kernel_rfl
            · kernel_rfl
            · kernel_rfl
            · rfl
            · kernel_rfl
            rw [← hwq]
            clear hwq HQ
            have x0 : wq.cell? ⟨X + 1, 0, none⟩ = some (.int .u16 0) := cell_at HST.out.b1
            have f0 : wq.frozen? ⟨X + 1, 0, none⟩ = false := free_at HST.out.b1
            have x1 : wq.cell? ⟨X + 1, 1, none⟩ = some (.slice none 0 0) := cell_at HST.out.b1
            have f1 : wq.frozen? ⟨X + 1, 1, none⟩ = false := free_at HST.out.b1
            have y0 : wq.cell? ⟨X + 1 + 1, 0, none⟩ = some (.string ⟨#[]⟩) := cell_at HST.out.b2
            have g0 : wq.frozen? ⟨X + 1 + 1, 0, none⟩ = false := free_at HST.out.b2
            have y1 : wq.cell? ⟨X + 1 + 1, 1, none⟩ = some (.int .u32 0) := cell_at HST.out.b2
            have g1 : wq.frozen? ⟨X + 1 + 1, 1, none⟩ = false := free_at HST.out.b2
            have y2 : wq.cell? ⟨X + 1 + 1, 2, none⟩ = some (.int .i64 0) := cell_at HST.out.b2
            have g2 : wq.frozen? ⟨X + 1 + 1, 2, none⟩ = false := free_at HST.out.b2
            have y3 : wq.cell? ⟨X + 1 + 1, 3, none⟩ = some (.string ⟨#[]⟩) := cell_at HST.out.b2
            have g3 : wq.frozen? ⟨X + 1 + 1, 3, none⟩ = false := free_at HST.out.b2
            have y4 : wq.cell? ⟨X + 1 + 1, 4, none⟩ = some (.int .i64 0) := cell_at HST.out.b2
            have g4 : wq.frozen? ⟨X + 1 + 1, 4, none⟩ = false := free_at HST.out.b2
            have c0 : wq.cell? ⟨Q, 0, none⟩ = some (.int .u16 tag) := cell_at HK1.out
            have c1 : wq.cell? ⟨Q, 1, none⟩ = some (.slice ua ul uc) := cell_at HK1.out
            go_upto_region 26 with fail
            go_region
            all_goals
              go_wp2_with fail
              clear x0 x1 f0 f1 y0 y1 y2 y3 y4 g0 g1 g2 g3 g4 c0 c1 d0 d1 d2 d3 d4
              obtain ⟨wf, hwf⟩ : ∃ wf, wf = (((((((wq.setCell ⟨X + 1, 0, none⟩ (.int .u16 tag)).setCell ⟨X + 1, 1, none⟩ (.slice ua ul uc)).setCell ⟨X + 1 + 1, 0, none⟩ (.string x.id)).setCell ⟨X + 1 + 1, 1, none⟩ (.int .u32 x.idx)).setCell ⟨X + 1 + 1, 2, none⟩ (.int .i64 x.val)).setCell ⟨X + 1 + 1, 3, none⟩ (.string x.script)).setCell ⟨X + 1 + 1, 4, none⟩ (.int .i64 x.ht)).drew := ⟨_, rfl⟩
              rw [← hwf]
              have hend := tk_end HST.out (.slice ua ul uc) (.string x.id) (.int .u32 x.idx) (.int .i64 x.val) (.string x.script) (.int .i64 x.ht) hwf
              clear hwf
              obtain ⟨hq1, hq2, hbf, hoth⟩ := hend
              have r0 : wf.cell? ⟨X + 1, 0, none⟩ = some (.int .u16 tag) := cell_at hq1
              have r1 : wf.cell? ⟨X + 1, 1, none⟩ = some (.slice ua ul uc) := cell_at hq1
              have s0 : wf.cell? ⟨X + 1 + 1, 0, none⟩ = some (.string x.id) := cell_at hq2
              have s1 : wf.cell? ⟨X + 1 + 1, 1, none⟩ = some (.int .u32 x.idx) := cell_at hq2
              have s2 : wf.cell? ⟨X + 1 + 1, 2, none⟩ = some (.int .i64 x.val) := cell_at hq2
              have s3 : wf.cell? ⟨X + 1 + 1, 3, none⟩ = some (.string x.script) := cell_at hq2
              have s4 : wf.cell? ⟨X + 1 + 1, 4, none⟩ = some (.int .i64 x.ht) := cell_at hq2
              have hfin : SlAt rpLs wf (.slice ua ul uc) _ := (⟨ownsRow_of_block HOWN.out.row fun b hb => hoth b (by have := HUB.out b hb; omega) (by have := HUB.out b hb; omega), HOWN.out.ok⟩ : LsOwn 0 wf (.slice ua ul uc) (LL)).sl
              refine bodyPost_ret (v := .tuple #[.agg #[.int .u16 tag, .slice ua ul uc], .agg #[.string x.id, .int .u32 x.idx, .int .i64 x.val, .string x.script, .int .i64 x.ht], .int .i64 0]) (by simp [results, Try.results20, go_sem, r0, r1, s0, s1, s2, s3, s4]) rfl ?_
              rw [HR.out]
              exact ⟨_, rfl, hfin, hbf, .inr fun B hB => by have := HUB.out B hB; have := HST.out.base; omega⟩
end Go.Proofs.Ytelindgnkpfkiaa
