/-
  ReservePlays, part 4: the texts Vp2, one after another. Conditions: none beyond those named at each.
-/
import Derived.Test.YtelindgnkpfkiaaVz
import Derived.Test.YtelindgnkpfkiaaQ1ReservePlays
import Derived.Test.YtelindgnkpfkiaaVk
import Derived.Test.YtelindgnkpfkiaaQ3ReservePlays
section
/-
  ReservePlays: the walk. Conditions: what is done lies in memory.
-/
namespace Go.Proofs.Ytelindgnkpfkiaa
open Go.RowKit Go.BigFrame Go.Maps
set_option linter.unusedVariables false
set_option linter.unusedSimpArgs false

theorem SlAt.keptLs {w w' : World} {v : Value} {L : PLs} (h : SlAt rpLs w v L) (hk : L ≠ [] → ∀ B, v.ownBlock = some B → w'.heap[B]? = w.heap[B]?) : SlAt rpLs w' v L := by
  obtain ⟨a, c, rfl, h2, h3, h4⟩ := h
  refine ⟨a, c, rfl, h2, h3, fun i x hi => ?_⟩
  obtain ⟨b, o, cs, rfl, e2, e3, e4⟩ := h4 i x hi
  exact ⟨b, o, cs, rfl, e2, fun j u hj => by rw [World.cell?_of_block (hk (by rintro rfl; simp at hi) b rfl)]; exact e3 j u hj, e4⟩
theorem SlAt.blt {w : World} {v : Value} {L : PLs} (h : SlAt rpLs w v L) (hne : L ≠ []) : ∀ B, v.ownBlock = some B → B < w.heap.size := by
  obtain ⟨a, c, rfl, h2, h3, h4⟩ := h
  intro B hB
  cases L with
  | nil => exact absurd rfl hne
  | cons x L =>
    obtain ⟨b, o, cs, rfl, e2, e3, e4⟩ := h4 0 x rfl
    obtain rfl : b = B := by injection hB
    cases cs with
    | nil => cases e2
    | cons u cs => exact World.block_lt_of_cell? w _ (e3 0 u rfl)
structure PlS (w0 : World) (b m Z k tag : Nat) (M : Int → Option Pt) (L : PLs) (sv : Value) (wx : World) : Prop where
  rs : RsM wx b m (scrT tag) M k
  q : wx.heap[Z]? = some (.cells #[.int .u16 tag, sv] 61 (0, 0))
  sl : SlAt rpLs wx sv L
  far : ∀ B, sv.ownBlock = some B → w0.heap.size ≤ B ∧ B ≠ m ∧ B ≠ Z
  bel : Below w0.heap.size w0 wx
  base : w0.heap.size ≤ b ∧ w0.heap.size ≤ m ∧ w0.heap.size ≤ Z
  ne : Z ≠ b ∧ Z ≠ m
theorem PlS.lt {w0 wx : World} {b m Z k tag : Nat} {M : Int → Option Pt} {L : PLs} {sv : Value} (h : PlS w0 b m Z k tag M L sv wx) : b < wx.heap.size ∧ m < wx.heap.size ∧ Z < wx.heap.size := by
  obtain ⟨n, D, h1, -⟩ := h.rs.owns
  exact ⟨lt_of h.rs.box, h1.lt, lt_of h.q⟩
theorem PlS.keep {w0 wx w' : World} {b m Z k tag : Nat} {M : Int → Option Pt} {L : PLs} {sv : Value} {row : Option Nat} (h : PlS w0 b m Z k tag M L sv wx) (hg : wx.grownBy w' row) (hr : ∀ j, row = some j → w0.heap.size ≤ j ∧ j ≠ b ∧ j ≠ m ∧ j ≠ Z ∧ (L ≠ [] → ∀ B, sv.ownBlock = some B → B ≠ j)) : PlS w0 b m Z k tag M L sv w' := by
  have hl := h.lt
  exact ⟨h.rs.grownOther hg (fun e => (hr b e.symm).2.1 rfl) (fun e => (hr m e.symm).2.2.1 rfl), (hg.block Z hl.2.2 (fun e => (hr Z e.symm).2.2.2.1 rfl)).trans h.q, h.sl.keptLs fun hne B hB => hg.block B (h.sl.blt hne B hB) (fun e => (hr B e.symm).2.2.2.2 hne B hB rfl), h.far,
    h.bel.grown hg h.bel.size (fun j hj => (hr j hj).1), h.base, h.ne⟩
theorem two_grown {w : World} {X : Nat} {u0 u1 : Value} {t : TypeId} (h : w.heap[X]? = some (.cells #[u0, u1] t (0, 0))) (v0 v1 : Value) : w.grownBy ((w.setCell ⟨X, 0, none⟩ v0).setCell ⟨X, 1, none⟩ v1) (some X) := by
  obtain ⟨t1, t2, t3⟩ := two_cells h v0 v1
  exact ⟨(t3 0 (Nat.zero_le _)).os, (t3 0 (Nat.zero_le _)).tape, (t3 0 (Nat.zero_le _)).output, (t3 0 (Nat.zero_le _)).size, fun k hk hne => t2 k (fun e => hne (by rw [e]))⟩
theorem PlS.below {w0 wx w' : World} {b m Z k tag : Nat} {M : Int → Option Pt} {L : PLs} {sv : Value} (h : PlS w0 b m Z k tag M L sv wx) (hb : Below wx.heap.size wx w') : PlS w0 b m Z k tag M L sv w' := h.keep (below_grown (row := none) hb rfl) (fun j hj => by cases hj)
theorem PlS.lease {w0 wx w' : World} {b m Z k k' tag : Nat} {M M' : Int → Option Pt} {L : PLs} {sv : Value} (h : PlS w0 b m Z k tag M L sv wx) (hg : wx.grownBy w' (some m)) (hr : RsM w' b m (scrT tag) M' k') : PlS w0 b m Z k' tag M' L sv w' := by
  have hl := h.lt
  exact ⟨hr, (hg.block Z hl.2.2 (by intro e; injection e with e; exact h.ne.2 e)).trans h.q, h.sl.keptLs fun hne B hB => hg.block B (h.sl.blt hne B hB) (by intro e; injection e with e; exact (h.far B hB).2.1 e), h.far,
    h.bel.grown hg h.bel.size (fun j hj => by cases hj; exact h.base.2.1), h.base, h.ne⟩
theorem PlS.more {w0 wx : World} {b m Z k k' tag : Nat} {M : Int → Option Pt} {L : PLs} {sv : Value} (h : PlS w0 b m Z k tag M L sv wx) (hk : k ≤ k') : PlS w0 b m Z k' tag M L sv wx := ⟨h.rs.more hk, h.q, h.sl, h.far, h.bel, h.base, h.ne⟩
/-- The document's reserve is set anew. -/
theorem PlS.setq {w0 wx : World} {b m Z k tag : Nat} {M : Int → Option Pt} {L L' : PLs} {sv v : Value} (h : PlS w0 b m Z k tag M L sv wx) (hs : SlAt rpLs wx v L') (hf : ∀ B, v.ownBlock = some B → w0.heap.size ≤ B ∧ B ≠ m ∧ B ≠ Z) :
    PlS w0 b m Z k tag M L' v ((wx.setCell ⟨Z, 0, none⟩ (.int .u16 tag)).setCell ⟨Z, 1, none⟩ v) := by
  obtain ⟨t1, t2, t3⟩ := two_cells h.q (.int .u16 tag) v
  have hl := h.lt
  have hg : wx.grownBy ((wx.setCell ⟨Z, 0, none⟩ (.int .u16 tag)).setCell ⟨Z, 1, none⟩ v) (some Z) := ⟨(t3 0 (Nat.zero_le _)).os, (t3 0 (Nat.zero_le _)).tape, (t3 0 (Nat.zero_le _)).output, (t3 0 (Nat.zero_le _)).size, fun k hk hne => t2 k (fun e => hne (by rw [e]))⟩
  exact ⟨h.rs.grownOther hg (by intro e; injection e with e; exact h.ne.1 e.symm) (by intro e; injection e with e; exact h.ne.2 e.symm), t1, hs.keptLs fun _ B hB => t2 B (hf B hB).2.2, hf, h.bel.trans (t3 w0.heap.size h.base.2.2), h.base, h.ne⟩
theorem PlS.len {w0 wx : World} {b m Z k tag : Nat} {M : Int → Option Pt} {L : PLs} {sv : Value} (h : PlS w0 b m Z k tag M L sv wx) (ha : AgrL L M) : L.length ≤ k := by
  obtain ⟨n, D, h1, h2, h3⟩ := h.rs.owns
  have := ha.size h2 h1
  have := h1.size_le
  omega
theorem EnOwn.kept {t : TypeId} {base : Nat} {w w' : World} {v : Value} {l : List PEn} (h : EnOwn t base w v l) (hk : ∀ B, v.ownBlock = some B → w'.heap[B]? = w.heap[B]?) : EnOwn t base w' v l := ⟨ownsRow_of_block h.row hk, h.ok⟩
theorem eqIn_coin (x : PEn) (w : World) : (Op.equalIn 10000 39 (.agg #[.int .i64 x.val, .string x.script, .int .i64 x.ht]) (.agg #[.int .i64 x.val, .string x.script, .int .i64 x.ht])).run Try.prog w = .ok true w := by
  have hS : Try.prog.underlying 39 = some (.struct (Try.prog.fieldsOf 39)) := by kernel_rfl
  have hp : Try.prog.stoodInHeld 39 = false := by kernel_rfl
  rw [show (10000 : Nat) = 9999 + 1 from rfl, run_equalIn_agg w 9999 39 _ _ hS hp]
  simp only [Program.fieldsOf, Try.underlying39]
  have u1 := Try.underlying9
  have u3 := Try.underlying3
  have u6 := Try.underlying37
  go_simp
theorem guardCoin : Try.prog.eqGuardType Try.prog.depth 39 = false := by kernel_rfl
def TT (b m k : Nat) (s : ByteArray) (M M' : Int → Option Pt) : Prop → World → Prop := fun p w => (p → RsM w b m s M' (k + 1)) ∧ (¬ p → RsM w b m s M k)
theorem TT.stay {w0 : World} {b m k : Nat} {s : ByteArray} {M M' : Int → Option Pt} (hb : b < w0.heap.size) (hm : m < w0.heap.size) : TStay (TT b m k s M M') w0 := fun p w w' row hg hr h =>
  ⟨fun hp => (h.1 hp).grownOther hg (fun e => by have := hr b e.symm; omega) (fun e => by have := hr m e.symm; omega), fun hp => (h.2 hp).grownOther hg (fun e => by have := hr b e.symm; omega) (fun e => by have := hr m e.symm; omega)⟩
theorem TT.start {w0 : World} {b m k : Nat} {s : ByteArray} {M M' : Int → Option Pt} (h : RsM w0 b m s M k) : TT b m k s M M' False w0.drew :=
  ⟨fun hp => hp.elim, fun _ => h.grownOther (row := none) ⟨rfl, rfl, rfl, Nat.le_refl _, fun _ _ _ => rfl⟩ (fun e => by cases e) (fun e => by cases e)⟩
def SFact.ens (CL : List PEn) : SFact := ⟨fun v _ lo hi w => ∃ u, v = u ∧ (∀ B, u.ownBlock = some B → lo ≤ B ∧ B < hi) ∧ w.ownsRow 0 41 5 u CL.length (ensCells CL) ∧ ∀ x ∈ CL, x.Ok,
  fun hk ⟨u, h1, h2, h3, h4⟩ => ⟨u, h1, h2, ownsRow_of_block h3 fun B hB => hk B (h2 B hB).1 (h2 B hB).2, h4⟩⟩
def RLp (b Y : Nat) (key need : Int) (a : Option Addr) (n c : Nat) (CL : List PEn) (xe : PEn) (rc : Int) : Prop → Nat → SFact
  | _, 0 => .val fun _ => .pointer (some ⟨b, 0, none⟩)
  | _, 1 => .val fun _ => .int .i64 key
  | _, 2 => .val fun _ => .pointer (some ⟨Y, 2, none⟩)
  | _, 3 => .val fun _ => .int .i64 need
  | _, 4 => .val fun _ => .slice a n c
  | _, 5 => .ens CL
  | _, 6 => .val fun _ => .tuple #[.agg #[.string xe.id, .int .u32 xe.idx, .int .i64 xe.val, .string xe.script, .int .i64 xe.ht], .int .i64 rc]
  | _, 7 => .val fun _ => .tuple #[.agg #[.string xe.id, .int .u32 xe.idx, .int .i64 xe.val, .string xe.script, .int .i64 xe.ht], .int .i64 rc]
  | _, 8 => .val fun _ => .agg #[.string xe.id, .int .u32 xe.idx, .int .i64 xe.val, .string xe.script, .int .i64 xe.ht]
  | _, 9 => .val fun _ => .int .i64 rc
  | p, 10 => .made p (.cells #[.string ⟨#[]⟩, .int .u32 0, .int .i64 0, .string ⟨#[]⟩, .int .i64 0] 41 (0, 0))
  | _, 11 => .stored 41
  | _, _ => .any
set_option maxRecDepth 100000 in
set_option maxHeartbeats 4000000 in
theorem reservePlays_walk (tag : Int) (sl : Value) (l : List PAct) (w : World) (htag : (Lit.int .u16 tag).wf = true) (hsl : SlAt rpAct w sl l) : Calls Try.prog 5 #[.int .u16 tag, sl] w (BIs true w) := by
  have HSL := Lib.hid hsl
  obtain ⟨sa, sc, rfl, hl1, hl2⟩ := hsl.shape
  rw [maxLen_eq] at hl2
  have ht := wf_u16 htag
  obtain ⟨tg, rfl⟩ : ∃ tg : Nat, tag = (tg : Int) := ⟨tag.toNat, by omega⟩
  have htg : tg < 65536 := by omega
  obtain ⟨n, hn⟩ : ∃ n, n = l.length := ⟨_, rfl⟩
  rw [← hn] at hl1 HSL ⊢
  obtain ⟨mo, hmo⟩ : ∃ mo, mo = min n 25 := ⟨_, rfl⟩
  have hmin : min (n : Int) 25 = (mo : Int) := by omega
  have hmn : mo ≤ n := by omega
  have hm25 : mo ≤ 25 := by omega
  clear hsl hn hmo htag ht
  by_cases hz : tg = 0
  · subst hz
    go_enter Try.func5, Try.ntmps5
    go_wp2_with fail
    refine (newr_nil w).mono ?_
    rintro e w' ⟨rfl, rfl⟩
    go_wp2_with fail
    refine (wakes23_any w').mono ?_
    rintro e w2 ⟨rfl, hxc⟩
    go_wp2_with fail
    go_ret
    exact ⟨rfl, hxc⟩
  have HTG := Lib.hid htg
  have hz1 : ((tg : Int) == 0) = false := by rw [beq_eq_false_iff_ne]; omega
  have hz2 : ¬ ((tg : Int) = 0) := by omega
  go_enter Try.func5, Try.ntmps5
  go_wp2_with fail
  refine (newr_any tg htg (by omega) w).mono ?_
  rintro e w1 ⟨b, m, rfl, hrm, hb, hm, hbel⟩
  have HRM := Lib.hid hrm
  have HBM := Lib.hid (And.intro hb hm)
  have HBW := Lib.hid hbel
  have hml : m < w1.heap.size := by obtain ⟨n, D, ho, -⟩ := hrm.owns; exact ho.lt
  have HML := Lib.hid (And.intro (lt_of hrm.box) hml)
  clear hrm hb hm hbel hml
  go_upto_region 5 with fail
  have hz := heap_alloc_new w1 (.cells #[.int .u16 tg, .slice none 0 0] 61)
  have hal : Below w1.heap.size w1 (w1.alloc (.cells #[.int .u16 tg, .slice none 0 0] 61)) := (Below.refl _ _).alloc (Nat.le_refl _) _
  obtain ⟨Z, hZ⟩ : ∃ q, q = w1.heap.size := ⟨_, rfl⟩
  rw [← hZ] at hz ⊢
  generalize w1.alloc (.cells #[.int .u16 tg, .slice none 0 0] 61) = w2 at *
  have HST := Lib.hid (show PlS w b m Z 0 tg (fun _ => none) [] (.slice none 0 0) w2 from
    ⟨HRM.out.below hal, hz, sl_nil, (fun B hB => by cases hB), HBW.out.trans (hal.mono HBW.out.size), ⟨HBM.out.1, HBM.out.2, by rw [hZ]; exact HBW.out.size⟩, by have := HML.out; omega⟩)
  clear hz hal hZ HRM HBW HBM HML
  go_wp2_with fail
  refine (rscr_any b m _ _ w2 HST.out.rs).mono ?_
  rintro e w' ⟨rfl, rfl⟩
  go_wp2_with fail
  refine (rscript_any tg HTG.out w2).mono ?_
  rintro e w3 ⟨rfl, hxc⟩
  have HST := Lib.hid (HST.out.below hxc)
  clear hxc hz1 hz2
  go_wp2_with fail
  go_loopg [59] mo (fun g i wr => ∃ (k : Nat) (M : Int → Option Pt) (L : PLs) (sv : Value), g = mo - k ∧ k ≤ mo ∧ i = .int .i64 k ∧ PlS w b m Z k tg M L sv wr ∧ AgrL L M)
  case atStart => exact ⟨0, _, [], _, rfl, by omega, rfl, HST.out, AgrL.start⟩
  case round =>
    clear HST
    rename World => wo
    obtain ⟨k, M, L, sv, hgk, hk, rfl, hst, hag⟩ := hrel
    have HGK := Lib.hid hgk
    have HST := Lib.hid hst
    have HAG := Lib.hid hag
    clear hgk hst hag
    by_cases hlt : k < mo
    · obtain ⟨sb, so, x, ca, cn, cc, rfl, hx, hxo, hco, d0, d1, d2, d3, d4, d5, d6⟩ := (HSL.out.below HST.out.bel).act (Nat.lt_of_lt_of_le hlt hmn)
      have HXO := Lib.hid hxo
      have HCO := Lib.hid hco
      clear hx hxo hco
      go_upto_region 10 with fail
      have hz := heap_alloc_new wo (.cells #[.int .u8 x.do_, .int .i64 x.key, .int .i64 x.need, .string x.id, .int .u32 x.idx, .slice ca cn cc, .bool x.odd] 49)
      have hal : Below wo.heap.size wo (wo.alloc (.cells #[.int .u8 x.do_, .int .i64 x.key, .int .i64 x.need, .string x.id, .int .u32 x.idx, .slice ca cn cc, .bool x.odd] 49)) := (Below.refl _ _).alloc (Nat.le_refl _) _
      obtain ⟨Y, hY⟩ : ∃ q, q = wo.heap.size := ⟨_, rfl⟩
      rw [← hY] at hz ⊢
      generalize wo.alloc (.cells #[.int .u8 x.do_, .int .i64 x.key, .int .i64 x.need, .string x.id, .int .u32 x.idx, .slice ca cn cc, .bool x.odd] 49) = w4 at *
      have HYLT := Lib.hid (show m < Y ∧ Z < Y by have h2 := HST.out.lt; omega)
      have HYS := Lib.hid (show m < w4.heap.size by have h2 := HST.out.lt; have := lt_of hz; omega)
      have HST := Lib.hid (HST.out.below hal)
      have HCO := Lib.hid (HCO.out.below hal)
      have HY := Lib.hid hz
      have y5 : w4.cell? ⟨Y, 5, none⟩ = some (.slice ca cn cc) := cell_at hz
      clear hz hal hY d0 d1 d2 d3 d4 d5 d6
      go_wp2_with fail
      refine (some_any _ x.coins w4 HCO.out).mono ?_
      rintro e w5 ⟨v3, rfl, hso, hxc⟩
      generalize hL : ((x.coins.map coinE).take 10) = CL at *
      have hll : CL.length ≤ 1000 := by rw [← hL, List.length_take]; omega
      have HSLT := Lib.hid (show ∀ B, v3.ownBlock = some B → m < B ∧ Z < B ∧ Y < B from fun B hB => by have h1 := (hso.row.lt B hB).1; have h2 := HST.out.lt; have h3 := lt_of HY.out; omega)
      have HST := Lib.hid (HST.out.below hxc)
      have HY := Lib.hid (stay HY.out hxc)
      have HSO := Lib.hid hso
      clear hxc hso hL y5 HCO
      obtain ⟨a3, c3, rfl, hc31, hc32⟩ := ownsRow_shape HSO.out.row
      rw [maxLen_eq] at hc32
      have HCLL := Lib.hid hll
      clear hll
      have y1 : w5.cell? ⟨Y, 1, none⟩ = some (.int .i64 x.key) := cell_at HY.out
      have y6 : w5.cell? ⟨Y, 6, none⟩ = some (.bool x.odd) := cell_at HY.out
      obtain ⟨od, hod⟩ : ∃ od, od = x.odd := ⟨_, rfl⟩
      rw [← hod] at y6 HY
      clear hod
      go_upto_if 70 with fail
      go_cut [11] (fun s wx => (∃ key : Int, s = .int .i64 key ∧ (-9223372036854775808 ≤ key ∧ key ≤ 9223372036854775807)) ∧ wx = w5)
      case first =>
        have hkb := HXO.out.key
        cases od
        · obtain ⟨kk, hkk⟩ : ∃ kk : Nat, kk = (max 0 x.key).toNat % 6 := ⟨_, rfl⟩
          have e9 : (max 0 x.key).tmod 6 = (kk : Int) := by rw [Int.tmod_eq_emod_of_nonneg (by omega)]; omega
          have e9' : max 0 x.key % 6 = (kk : Int) := by omega
          have hk6 : kk < 6 := by omega
          clear hkk
          go_wp2_with fail
          go_meet
          exact ⟨⟨(kk : Int), rfl, by omega⟩, rfl⟩
        · go_wp2_with fail
          go_meet
          exact ⟨⟨x.key, rfl, hkb⟩, rfl⟩
      case rest =>
        obtain ⟨⟨key, rfl, hkb⟩, rfl⟩ := hcut
        rename World => w5
        have HKB := Lib.hid hkb
        have HKW := Lib.hid (show (Lit.int .i64 key).wf = true from wf_i64_of hkb)
        clear y1 y6 hkb
        have y0 : w5.cell? ⟨Y, 0, none⟩ = some (.int .u8 x.do_) := cell_at HY.out
        obtain ⟨dd, hdd⟩ : ∃ dd, dd = x.do_ % 4 := ⟨_, rfl⟩
        have hd0 : x.do_ < 256 := HXO.out.do_
        have e57 : (x.do_ : Int).tmod 4 = (dd : Int) := by rw [Int.tmod_eq_emod_of_nonneg (by omega)]; omega
        have e57' : (x.do_ : Int) % 4 = (dd : Int) := by omega
        have hd4 : dd < 4 := by omega
        clear hdd hd0
        go_upto_block 2 with fail
        clear e57 e57' y0
        obtain ⟨qa, qc, hqs, -, -⟩ := HST.out.sl.shape
        subst hqs
        have HLEN := Lib.hid (show L.length < 1000 by have := HST.out.len HAG.out; omega)
        have HK25 := Lib.hid (show k < 1000000 by omega)
        go_cut [] (fun wx => ∃ (M' : Int → Option Pt) (L' : PLs) (sv' : Value), PlS w b m Z (k + 1) tg M' L' sv' wx ∧ AgrL L' M' ∧ EnOwn 63 w4.heap.size wx (.slice a3 CL.length c3) CL)
        case first =>
          obtain rfl | rfl | ⟨hd2, hd3⟩ : dd = 2 ∨ dd = 3 ∨ (dd ≠ 2 ∧ dd ≠ 3) := by omega
          · have y3 : w5.cell? ⟨Y, 3, none⟩ = some (.string x.id) := cell_at HY.out
            have y4 : w5.cell? ⟨Y, 4, none⟩ = some (.int .u32 x.idx) := cell_at HY.out
            go_upto_region 22 with fail
            have hz := heap_alloc_new w5 (.cells #[.string x.id, .int .u32 x.idx] 35)
            have hal : Below w5.heap.size w5 (w5.alloc (.cells #[.string x.id, .int .u32 x.idx] 35)) := (Below.refl _ _).alloc (Nat.le_refl _) _
            obtain ⟨PB, hPB⟩ : ∃ q, q = w5.heap.size := ⟨_, rfl⟩
            rw [← hPB] at hz ⊢
            generalize w5.alloc (.cells #[.string x.id, .int .u32 x.idx] 35) = w6 at *
            have HPB := Lib.hid (show (w.heap.size ≤ PB ∧ PB ≠ b ∧ PB ≠ m ∧ PB ≠ Z ∧ (L ≠ [] → ∀ B, (Value.slice qa L.length qc).ownBlock = some B → B ≠ PB)) ∧ ∀ B, (Value.slice a3 CL.length c3).ownBlock = some B → B ≠ PB by
              have h1 := HST.out.lt
              have h2 := HST.out.bel.size
              refine ⟨⟨by omega, by omega, by omega, by omega, fun hne B hB => ?_⟩, fun B hB => ?_⟩
              · have := HST.out.sl.blt hne B hB
                omega
              · have := (HSO.out.row.lt B hB).2
                omega)
            have HST := Lib.hid (HST.out.below hal)
            have HSO := Lib.hid (HSO.out.below hal)
            have HY := Lib.hid (stay HY.out hal)
            have HP := Lib.hid hz
            clear hz hal hPB y3 y4
            have y6 : w6.cell? ⟨Y, 6, none⟩ = some (.bool od) := cell_at HY.out
            obtain ⟨cl, hcl⟩ : ∃ q, q = CL.length := ⟨_, rfl⟩
            rw [← hcl] at HSO hc31 HPB ⊢
            have HCL := Lib.hid hcl
            clear hcl
            obtain ⟨tb, htb⟩ : ∃ tb, tb = (decide (0 < cl) && !od) := ⟨_, rfl⟩
            have HTB := Lib.hid htb
            clear htb
            go_cut [127] (fun s wx => s = .bool tb ∧ wx = w6)
            case first =>
              by_cases h0 : 0 < cl
              · have h0' : (0 : Int) < (cl : Int) := by omega
                cases od
                · have e : tb = true := by rw [HTB.out, decide_eq_true h0]; rfl
                  subst e
                  go_wp2_with fail
                  go_meet
                  exact ⟨rfl, rfl⟩
                · have e : tb = false := by rw [HTB.out]; simp
                  subst e
                  go_wp2_with fail
                  go_meet
                  exact ⟨rfl, rfl⟩
              · have h0' : ¬ (0 : Int) < (cl : Int) := by omega
                have e : tb = false := by rw [HTB.out, decide_eq_false h0]; rfl
                subst e
                go_wp2_with fail
                go_meet
                exact ⟨rfl, rfl⟩
            case rest =>
            obtain ⟨rfl, rfl⟩ := hcut
            rename World => w6
            clear y6
            go_upto_if 127 with fail
            go_cut [] (fun wx => ∃ pp : Pt, wx.heap[PB]? = some (.cells #[.string pp.1, .int .u32 pp.2] 35 (0, 0)) ∧ (pp.1.size ≤ maxLen ∧ pp.2 < 4294967296) ∧ PlS w b m Z k tg M L (.slice qa L.length qc) wx ∧ EnOwn 63 w4.heap.size wx (.slice a3 cl c3) CL)
            case first =>
              cases tb
              · go_wp2_with fail
                go_meet
                exact ⟨(x.id, x.idx), HP.out, ⟨HXO.out.id, HXO.out.idx⟩, HST.out, HSO.out⟩
              · have h0 : 0 < cl := by
                  have h := HTB.out
                  by_cases h0 : 0 < cl
                  · exact h0
                  · rw [decide_eq_false h0] at h; cases h
                have hsl0 := HSO.out.sl
                obtain ⟨eb, eo, xe, heb, hx0, hxo0, e0, e1, -, -, -⟩ := hsl0.en h0
                subst heb
                have HXE := Lib.hid hxo0
                have p0 : w6.cell? ⟨PB, 0, none⟩ = some (.string x.id) := cell_at HP.out
                have p1 : w6.cell? ⟨PB, 1, none⟩ = some (.int .u32 x.idx) := cell_at HP.out
                have f0 : w6.frozen? ⟨PB, 0, none⟩ = false := free_at HP.out
                have f1 : w6.frozen? ⟨PB, 1, none⟩ = false := free_at HP.out
                rw [show eo + 0 * 5 = eo by omega] at e0
                rw [show eo + 0 * 5 + 1 = eo + 1 by omega] at e1
                clear hx0 hxo0 hsl0
                go_wp2_with fail
                go_meet
                have hg := two_grown HP.out (.string xe.id) (.int .u32 xe.idx)
                obtain ⟨t1, t2, -⟩ := two_cells HP.out (.string xe.id) (.int .u32 xe.idx)
                exact ⟨(xe.id, xe.idx), t1, ⟨HXE.out.id, HXE.out.idx⟩, HST.out.keep hg (fun j hj => by cases hj; exact HPB.out.1), HSO.out.kept fun B hB => t2 B (HPB.out.2 B hB)⟩
            case rest =>
            obtain ⟨pp, hp, hpb, hst, hso⟩ := hcut
            rename World => w7
            have HP := Lib.hid hp
            have HPB2 := Lib.hid hpb
            have HST := Lib.hid hst
            have HSO := Lib.hid hso
            clear hp hpb hst hso
            have z0 : w7.cell? ⟨Z, 0, none⟩ = some (.int .u16 tg) := cell_at HST.out.q
            have z1 : w7.cell? ⟨Z, 1, none⟩ = some (.slice qa L.length qc) := cell_at HST.out.q
            have p0 : w7.cell? ⟨PB, 0, none⟩ = some (.string pp.1) := cell_at HP.out
            have p1 : w7.cell? ⟨PB, 1, none⟩ = some (.int .u32 pp.2) := cell_at HP.out
            go_wp2_with fail
            refine (rrestore_any tg _ L key pp w7 HST.out.sl ⟨HKB.out, HPB2.out.1, HPB2.out.2⟩ HLEN.out).mono ?_
            rintro e w8 ⟨v, rfl, hv, hxc, hvo⟩
            have HAG2 := Lib.hid (HAG.out.rest key pp)
            have hfar : ∀ B, v.ownBlock = some B → w.heap.size ≤ B ∧ B ≠ m ∧ B ≠ Z := by
              intro B hB
              rcases hvo with rfl | h
              · exact HST.out.far B hB
              · have h1 := h B hB
                have h2 := HST.out.lt
                have h3 := HST.out.bel.size
                omega
            obtain ⟨va, vc, hve, -, -⟩ := hv.shape
            subst hve
            have HV := Lib.hid hv
            have HFAR := Lib.hid hfar
            have HST := Lib.hid (HST.out.below hxc)
            have HSO := Lib.hid (HSO.out.below hxc)
            have HP := Lib.hid (stay HP.out hxc)
            clear hv hvo hfar hxc z0 z1 p0 p1
            generalize hL2 : (rrestE L key pp).1 = L2 at *
            generalize hR2 : (rrestE L key pp).2 = rc at *
            clear hL2 hR2
            go_upto_region 25 with fail
            have hz := heap_alloc_new w8 (.cells #[.int .u16 tg, .slice va L2.length vc] 61)
            have hal : Below w8.heap.size w8 (w8.alloc (.cells #[.int .u16 tg, .slice va L2.length vc] 61)) := (Below.refl _ _).alloc (Nat.le_refl _) _
            obtain ⟨U, hU⟩ : ∃ q, q = w8.heap.size := ⟨_, rfl⟩
            rw [← hU] at hz ⊢
            generalize w8.alloc (.cells #[.int .u16 tg, .slice va L2.length vc] 61) = w9 at *
            have HLTU := Lib.hid (show m < U ∧ Z < U by have h2 := HST.out.lt; omega)
            have HST := Lib.hid (HST.out.below hal)
            have HSO := Lib.hid (HSO.out.below hal)
            have HP := Lib.hid (stay HP.out hal)
            have HV := Lib.hid (HV.out.below hal)
            have HU := Lib.hid hz
            have p0 : w9.cell? ⟨PB, 0, none⟩ = some (.string pp.1) := cell_at HP.out
            have p1 : w9.cell? ⟨PB, 1, none⟩ = some (.int .u32 pp.2) := cell_at HP.out
            clear hz hal hU
            have HR := Lib.hid (show Calls Try.prog 13 #[.pointer (some ⟨b, 0, none⟩), .int .i64 key, .agg #[.string pp.1, .int .u32 pp.2]] w9 (RestP b m (scrT tg) k (restE M key pp) w9) from
              restore_any b m (scrT tg) M key pp w9 HST.out.rs HK25.out HKW.out (by have := HPB2.out.1; rw [maxLen_eq] at this; exact this))
            generalize hRE : restE M key pp = RE at *
            obtain ⟨c0, M'⟩ := RE
            clear hRE
            have hrc : rc = c0 := HAG2.out.1
            subst hrc
            have hcl := HCL.out
            subst hcl
            go_wp2_with fail
            refine HR.out.mono ?_
            rintro e w10 ⟨rfl, hg, hr⟩
            have HSTL := Lib.hid (HST.out.lease hg hr)
            have HU := Lib.hid ((hg.block U (lt_of HU.out) (by have := HLTU.out; intro e; injection e; omega)).trans HU.out)
            have HV := Lib.hid (HV.out.keptLs fun hne B hB => hg.block B (HV.out.blt hne B hB) (by intro e; injection e with e; exact (HFAR.out B hB).2.1 e))
            have HSO := Lib.hid (HSO.out.kept fun B hB => hg.block B (by have := (HSO.out.row.lt B hB).2; omega) (by have := (HSLT.out B hB).1; intro e; injection e; omega))
            have hset := HSTL.out.setq HV.out HFAR.out
            obtain ⟨-, t2, -⟩ := two_cells HSTL.out.q (.int .u16 tg) (.slice va L2.length vc)
            have HSET := Lib.hid hset
            have HSOF := Lib.hid (show EnOwn 63 w4.heap.size _ (.slice a3 CL.length c3) CL from HSO.out.kept fun B hB => t2 B (by have := (HSLT.out B hB).2.1; omega))
            have z0 : w10.cell? ⟨Z, 0, none⟩ = some (.int .u16 tg) := cell_at HSTL.out.q
            have z1 : w10.cell? ⟨Z, 1, none⟩ = some (.slice qa L.length qc) := cell_at HSTL.out.q
            have g0 : w10.frozen? ⟨Z, 0, none⟩ = false := free_at HSTL.out.q
            have g1 : w10.frozen? ⟨Z, 1, none⟩ = false := free_at HSTL.out.q
            have u0 : w10.cell? ⟨U, 0, none⟩ = some (.int .u16 tg) := cell_at HU.out
            have u1 : w10.cell? ⟨U, 1, none⟩ = some (.slice va L2.length vc) := cell_at HU.out
            clear hg hr hset t2 p0 p1 HR
            have hrr : (rc == rc) = true := by simp
            go_wp2_with fail
            go_meet
            exact ⟨M', L2, _, HSET.out, HAG2.out.2, HSOF.out⟩
          · have z0 : w5.cell? ⟨Z, 0, none⟩ = some (.int .u16 tg) := cell_at HST.out.q
            have z1 : w5.cell? ⟨Z, 1, none⟩ = some (.slice qa L.length qc) := cell_at HST.out.q
            go_wp2_with fail
            refine (rrelease_any tg _ L key w5 HST.out.sl HLEN.out).mono ?_
            rintro e w8 ⟨v, rfl, hv, hxc, hvo⟩
            have HAG2 := Lib.hid (HAG.out.rel key)
            have hfar : ∀ B, v.ownBlock = some B → w.heap.size ≤ B ∧ B ≠ m ∧ B ≠ Z := by
              intro B hB
              rcases hvo with rfl | h
              · exact HST.out.far B hB
              · have h1 := h B hB
                have h2 := HST.out.lt
                have h3 := HST.out.bel.size
                omega
            obtain ⟨va, vc, hve, -, -⟩ := hv.shape
            subst hve
            have HV := Lib.hid hv
            have HFAR := Lib.hid hfar
            have HST := Lib.hid (HST.out.below hxc)
            have HSO := Lib.hid (HSO.out.below hxc)
            clear hv hvo hfar hxc z0 z1
            generalize hL2 : (rrelE L key).1 = L2 at *
            generalize hR2 : (rrelE L key).2 = rc at *
            clear hL2 hR2
            go_upto_region 30 with fail
            have hz := heap_alloc_new w8 (.cells #[.int .u16 tg, .slice va L2.length vc] 61)
            have hal : Below w8.heap.size w8 (w8.alloc (.cells #[.int .u16 tg, .slice va L2.length vc] 61)) := (Below.refl _ _).alloc (Nat.le_refl _) _
            obtain ⟨U, hU⟩ : ∃ q, q = w8.heap.size := ⟨_, rfl⟩
            rw [← hU] at hz ⊢
            generalize w8.alloc (.cells #[.int .u16 tg, .slice va L2.length vc] 61) = w9 at *
            have HLTU := Lib.hid (show m < U ∧ Z < U by have h2 := HST.out.lt; omega)
            have HST := Lib.hid (HST.out.below hal)
            have HSO := Lib.hid (HSO.out.below hal)
            have HV := Lib.hid (HV.out.below hal)
            have HU := Lib.hid hz
            clear hz hal hU
            have HR := Lib.hid (release_any b m (scrT tg) M key w9 HST.out.rs HKW.out)
            generalize hRE : relE M key = RE at *
            obtain ⟨c0, M'⟩ := RE
            clear hRE
            have hrc : rc = c0 := HAG2.out.1
            subst hrc
            go_wp2_with fail
            refine HR.out.mono ?_
            rintro e w10 ⟨rfl, hg, hr⟩
            have HSTL := Lib.hid (HST.out.lease hg (hr.more (Nat.le_succ k)))
            have HU := Lib.hid ((hg.block U (lt_of HU.out) (by have := HLTU.out; intro e; injection e; omega)).trans HU.out)
            have HV := Lib.hid (HV.out.keptLs fun hne B hB => hg.block B (HV.out.blt hne B hB) (by intro e; injection e with e; exact (HFAR.out B hB).2.1 e))
            have HSO := Lib.hid (HSO.out.kept fun B hB => hg.block B (by have := (HSO.out.row.lt B hB).2; omega) (by have := (HSLT.out B hB).1; intro e; injection e; omega))
            have hset := HSTL.out.setq HV.out HFAR.out
            obtain ⟨-, t2, -⟩ := two_cells HSTL.out.q (.int .u16 tg) (.slice va L2.length vc)
            have HSET := Lib.hid hset
            have HSOF := Lib.hid (show EnOwn 63 w4.heap.size _ (.slice a3 CL.length c3) CL from HSO.out.kept fun B hB => t2 B (by have := (HSLT.out B hB).2.1; omega))
            have z0 : w10.cell? ⟨Z, 0, none⟩ = some (.int .u16 tg) := cell_at HSTL.out.q
            have z1 : w10.cell? ⟨Z, 1, none⟩ = some (.slice qa L.length qc) := cell_at HSTL.out.q
            have g0 : w10.frozen? ⟨Z, 0, none⟩ = false := free_at HSTL.out.q
            have g1 : w10.frozen? ⟨Z, 1, none⟩ = false := free_at HSTL.out.q
            have u0 : w10.cell? ⟨U, 0, none⟩ = some (.int .u16 tg) := cell_at HU.out
            have u1 : w10.cell? ⟨U, 1, none⟩ = some (.slice va L2.length vc) := cell_at HU.out
            clear hg hr hset t2 HR
            have hrr : (rc == rc) = true := by simp
            go_wp2_with fail
            go_meet
            exact ⟨M', L2, _, HSET.out, HAG2.out.2, HSOF.out⟩
          · have y2 : w5.cell? ⟨Y, 2, none⟩ = some (.int .i64 x.need) := cell_at HY.out
            obtain ⟨R, hR⟩ : ∃ R, R = leaseF (scrT tg) M key x.need CL := ⟨_, rfl⟩
            obtain ⟨R2, hR2⟩ : ∃ R2, R2 = takeE (scrT tg) L key x.need CL := ⟨_, rfl⟩
            have hat := HAG.out.take (scrT tg) key x.need CL
            rw [← hR, ← hR2] at hat
            have HLC := Lib.hid (show ∀ (v : Value) (wr : World), RsM wr b m (scrT tg) M k → SlAt rpEn wr v CL → Calls Try.prog 10 #[.pointer (some ⟨b, 0, none⟩), .int .i64 key, .int .i64 x.need, v] wr (LeaseP b m (scrT tg) k R wr) from fun v wr h1 h2 =>
              hR ▸ lease_any b m (scrT tg) M key x.need v CL wr h1 HK25.out HKW.out h2)
            have HTC := Lib.hid (show ∀ (wr : World), SlAt rpLs wr (.slice qa L.length qc) L → SlAt rpEn wr (.slice a3 CL.length c3) CL → Calls Try.prog 20 #[.agg #[.int .u16 tg, .slice qa L.length qc], .int .i64 key, .int .i64 x.need, .slice a3 CL.length c3] wr (TkP tg (.slice qa L.length qc) R2 wr) from fun wr h1 h2 =>
              hR2 ▸ rtake_any tg _ _ L key x.need CL wr h1 h2 HTG.out HLEN.out HKB.out)
            obtain ⟨xe, rc, M'⟩ := R
            obtain ⟨L2, xe2, rc2⟩ := R2
            obtain ⟨e1, e2, hag'⟩ := hat
            dsimp only at e1 e2 hag'
            subst e1 e2
            have HAG' := Lib.hid hag'
            have HSC := Lib.hid (enC_def xe2)
            clear hR hR2 hag'
            have HLT := Lib.hid HST.out.lt
            have HTS := Lib.hid (TT.stay (k := k) (s := scrT tg) (M := M) (M' := M') HLT.out.1 HLT.out.2.1)
            go_upto_region 15 with fail
            refine wp_region_turned (TT b m k (scrT tg) M M') 6 (m) (HLT.out.2.1) (TT.start HST.out.rs) (RLp b Y key x.need a3 CL.length c3 CL xe2 rc2) 12 11 10 (by kernel_rfl) (by kernel_rfl) (by kernel_rfl) (by kernel_rfl) (by decide) (by kernel_rfl) (by decide) (by intro j hj v d lo hi w h; match j, hj, h with | 0, hj, h => exact h | 1, hj, h => exact h | 2, hj, h => exact h | 3, hj, h => exact h | 4, hj, h => exact h | 5, hj, h => exact h | 6, hj, h => exact h | 7, hj, h => exact h | 8, hj, h => exact h | 9, hj, h => exact h | 10, hj, h => exact absurd rfl hj | 11, hj, h => exact h | q + 12, hj, h => exact h) ?_ ?_
            · intro i o hi ho L xs lo hi' wr hmd hni hpre
              obtain ⟨x0, x1, x2, x3, x4, x5, x6, x7, x8, x9, x10, x11, rfl⟩ : ∃ x0 x1 x2 x3 x4 x5 x6 x7 x8 x9 x10 x11, xs = [x0, x1, x2, x3, x4, x5, x6, x7, x8, x9, x10, x11] := by match xs, hmd.len with | [x0, x1, x2, x3, x4, x5, x6, x7, x8, x9, x10, x11], _ => exact ⟨_, _, _, _, _, _, _, _, _, _, _, _, rfl⟩
              match i, ho with
              | 0, ho =>
                obtain rfl := Option.some.inj ho
                have kk := fun lx ox ax => tstep_pure (P := Try.prog) (T := TT b m k (scrT tg) M M') (c := 6) (m := m) (R := RLp b Y key x.need a3 CL.length c3 CL xe2 rc2) (s := 11) (l := lx) (w0 := w5) (L := L) (xs := [x0, x1, x2, x3, x4, x5, x6, x7, x8, x9, x10, x11]) (lo := lo) (hi := hi') (o := ox) (a := ax) (w := wr) (i := 0) (k := 10) (HTS.out) hmd.ph (by decide) (by decide) (.pointer (some ⟨b, 0, none⟩))
                refine kk _ _ _ ?_ ?_
                · kernel_rfl
                · exact rfl
              | 1, ho =>
                obtain rfl := Option.some.inj ho
                have kk := fun lx ox ax => tstep_pure (P := Try.prog) (T := TT b m k (scrT tg) M M') (c := 6) (m := m) (R := RLp b Y key x.need a3 CL.length c3 CL xe2 rc2) (s := 11) (l := lx) (w0 := w5) (L := L) (xs := [x0, x1, x2, x3, x4, x5, x6, x7, x8, x9, x10, x11]) (lo := lo) (hi := hi') (o := ox) (a := ax) (w := wr) (i := 1) (k := 10) (HTS.out) hmd.ph (by decide) (by decide) (.int .i64 key)
                refine kk _ _ _ ?_ ?_
                · kernel_rfl
                · exact rfl
              | 2, ho =>
                obtain rfl := Option.some.inj ho
                have kk := fun lx ox ax => tstep_pure (P := Try.prog) (T := TT b m k (scrT tg) M M') (c := 6) (m := m) (R := RLp b Y key x.need a3 CL.length c3 CL xe2 rc2) (s := 11) (l := lx) (w0 := w5) (L := L) (xs := [x0, x1, x2, x3, x4, x5, x6, x7, x8, x9, x10, x11]) (lo := lo) (hi := hi') (o := ox) (a := ax) (w := wr) (i := 2) (k := 10) (HTS.out) hmd.ph (by decide) (by decide) (.pointer (some ⟨Y, 2, none⟩))
                refine kk _ _ _ ?_ ?_
                · kernel_rfl
                · exact rfl
              | 3, ho =>
                obtain rfl := Option.some.inj ho
                have h_2 : x2 = .pointer (some ⟨Y, 2, none⟩) := hmd.rel 2 (hpre 2 (by kernel_rfl))
                subst h_2
                have t0 := grown_cells hmd.bel (show Y ≠ m by have := HYLT.out; omega) y2
                have kk := fun lx ox ax => tstep_pure (P := Try.prog) (T := TT b m k (scrT tg) M M') (c := 6) (m := m) (R := RLp b Y key x.need a3 CL.length c3 CL xe2 rc2) (s := 11) (l := lx) (w0 := w5) (L := L) (xs := [x0, x1, (.pointer (some ⟨Y, 2, none⟩)), x3, x4, x5, x6, x7, x8, x9, x10, x11]) (lo := lo) (hi := hi') (o := ox) (a := ax) (w := wr) (i := 3) (k := 10) (HTS.out) hmd.ph (by decide) (by decide) (.int .i64 x.need)
                refine kk _ _ _ ?_ ?_
                · simp [putAll, execOp, go_sem, t0]
                · exact rfl
              | 4, ho =>
                obtain rfl := Option.some.inj ho
                have kk := fun lx ox ax => tstep_pure (P := Try.prog) (T := TT b m k (scrT tg) M M') (c := 6) (m := m) (R := RLp b Y key x.need a3 CL.length c3 CL xe2 rc2) (s := 11) (l := lx) (w0 := w5) (L := L) (xs := [x0, x1, x2, x3, x4, x5, x6, x7, x8, x9, x10, x11]) (lo := lo) (hi := hi') (o := ox) (a := ax) (w := wr) (i := 4) (k := 10) (HTS.out) hmd.ph (by decide) (by decide) (.slice a3 CL.length c3)
                refine kk _ _ _ ?_ ?_
                · kernel_rfl
                · exact rfl
              | 5, ho =>
                obtain rfl := Option.some.inj ho
                have h_4 : x4 = .slice a3 CL.length c3 := hmd.rel 4 (hpre 4 (by kernel_rfl))
                subst h_4
                have kk := fun lx ox ax => tstep_call (P := Try.prog) (T := TT b m k (scrT tg) M M') (c := 6) (m := m) (R := RLp b Y key x.need a3 CL.length c3 CL xe2 rc2) (s := 11) (l := lx) (w0 := w5) (L := L) (xs := [x0, x1, x2, x3, (.slice a3 CL.length c3), x5, x6, x7, x8, x9, x10, x11]) (lo := lo) (hi := hi') (o := ox) (a := ax) (w := wr) (i := 5) (k := 10) (HTS.out) hmd.ph (by decide) (by decide) (listed_any _ CL wr (HSO.out.grown hmd.bel (by have := HYLT.out; have := HYS.out; omega)).sl HCLL.out)
                refine kk _ _ _ ?_ ?_
                · kernel_rfl
                · exact fun e w' ⟨v, he, ho, hb⟩ => ⟨_, he, hb, v, rfl, fun B hB => ho.row.lt B hB, ownsRow_base ho.row (Nat.zero_le _), ho.ok⟩
              | 6, ho =>
                obtain rfl := Option.some.inj ho
                have h_0 : x0 = .pointer (some ⟨b, 0, none⟩) := hmd.rel 0 (hpre 0 (by kernel_rfl))
                subst h_0
                have h_1 : x1 = .int .i64 key := hmd.rel 1 (hpre 1 (by kernel_rfl))
                subst h_1
                have h_3 : x3 = .int .i64 x.need := hmd.rel 3 (hpre 3 (by kernel_rfl))
                subst h_3
                have h5 : ∃ u, x5 = u ∧ (∀ B, u.ownBlock = some B → lo 5 ≤ B ∧ B < hi' 5) ∧ wr.ownsRow 0 41 5 u CL.length (ensCells CL) ∧ ∀ x ∈ CL, x.Ok := hmd.rel 5 (hpre 5 (by kernel_rfl))
                cases h5 with
                | intro u h5 =>
                cases h5 with
                | intro hu h5 =>
                cases h5 with
                | intro _ h5 =>
                cases h5 with
                | intro ho hk =>
                cases hu
                have kk := fun lx ox ax => tstep_turn (P := Try.prog) (T := TT b m k (scrT tg) M M') (c := 6) (m := m) (R := RLp b Y key x.need a3 CL.length c3 CL xe2 rc2) (s := 11) (l := lx) (w0 := w5) (L := L) (xs := [(.pointer (some ⟨b, 0, none⟩)), (.int .i64 key), x2, (.int .i64 x.need), x4, x5, x6, x7, x8, x9, x10, x11]) (lo := lo) (hi := hi') (o := ox) (a := ax) (w := wr) (k := 10) (by decide) (HLC.out x5 wr (hmd.ph.2 hni) (EnOwn.sl ⟨ho, hk⟩))
                refine kk _ _ _ ?_ ?_
                · kernel_rfl
                · exact fun e w' ⟨he, hg, hr⟩ => ⟨_, he, hg, ⟨fun _ => hr, fun h => absurd trivial h⟩, rfl⟩
              | 7, ho =>
                obtain rfl := Option.some.inj ho
                have h_6 : x6 = .tuple #[.agg #[.string xe2.id, .int .u32 xe2.idx, .int .i64 xe2.val, .string xe2.script, .int .i64 xe2.ht], .int .i64 rc2] := hmd.rel 6 (hpre 6 (by kernel_rfl))
                subst h_6
                have kk := fun lx ox ax => tstep_pure (P := Try.prog) (T := TT b m k (scrT tg) M M') (c := 6) (m := m) (R := RLp b Y key x.need a3 CL.length c3 CL xe2 rc2) (s := 11) (l := lx) (w0 := w5) (L := L) (xs := [x0, x1, x2, x3, x4, x5, (.tuple #[.agg #[.string xe2.id, .int .u32 xe2.idx, .int .i64 xe2.val, .string xe2.script, .int .i64 xe2.ht], .int .i64 rc2]), x7, x8, x9, x10, x11]) (lo := lo) (hi := hi') (o := ox) (a := ax) (w := wr) (i := 7) (k := 10) (HTS.out) hmd.ph (by decide) (by decide) (.tuple #[.agg #[.string xe2.id, .int .u32 xe2.idx, .int .i64 xe2.val, .string xe2.script, .int .i64 xe2.ht], .int .i64 rc2])
                refine kk _ _ _ ?_ ?_
                · kernel_rfl
                · exact rfl
              | 8, ho =>
                obtain rfl := Option.some.inj ho
                have h_7 : x7 = .tuple #[.agg #[.string xe2.id, .int .u32 xe2.idx, .int .i64 xe2.val, .string xe2.script, .int .i64 xe2.ht], .int .i64 rc2] := hmd.rel 7 (hpre 7 (by kernel_rfl))
                subst h_7
                have kk := fun lx ox ax => tstep_pure (P := Try.prog) (T := TT b m k (scrT tg) M M') (c := 6) (m := m) (R := RLp b Y key x.need a3 CL.length c3 CL xe2 rc2) (s := 11) (l := lx) (w0 := w5) (L := L) (xs := [x0, x1, x2, x3, x4, x5, x6, (.tuple #[.agg #[.string xe2.id, .int .u32 xe2.idx, .int .i64 xe2.val, .string xe2.script, .int .i64 xe2.ht], .int .i64 rc2]), x8, x9, x10, x11]) (lo := lo) (hi := hi') (o := ox) (a := ax) (w := wr) (i := 8) (k := 10) (HTS.out) hmd.ph (by decide) (by decide) (.agg #[.string xe2.id, .int .u32 xe2.idx, .int .i64 xe2.val, .string xe2.script, .int .i64 xe2.ht])
                refine kk _ _ _ ?_ ?_
                · kernel_rfl
                · exact rfl
              | 9, ho =>
                obtain rfl := Option.some.inj ho
                have h_7 : x7 = .tuple #[.agg #[.string xe2.id, .int .u32 xe2.idx, .int .i64 xe2.val, .string xe2.script, .int .i64 xe2.ht], .int .i64 rc2] := hmd.rel 7 (hpre 7 (by kernel_rfl))
                subst h_7
                have kk := fun lx ox ax => tstep_pure (P := Try.prog) (T := TT b m k (scrT tg) M M') (c := 6) (m := m) (R := RLp b Y key x.need a3 CL.length c3 CL xe2 rc2) (s := 11) (l := lx) (w0 := w5) (L := L) (xs := [x0, x1, x2, x3, x4, x5, x6, (.tuple #[.agg #[.string xe2.id, .int .u32 xe2.idx, .int .i64 xe2.val, .string xe2.script, .int .i64 xe2.ht], .int .i64 rc2]), x8, x9, x10, x11]) (lo := lo) (hi := hi') (o := ox) (a := ax) (w := wr) (i := 9) (k := 10) (HTS.out) hmd.ph (by decide) (by decide) (.int .i64 rc2)
                refine kk _ _ _ ?_ ?_
                · kernel_rfl
                · exact rfl
              | 10, ho =>
                obtain rfl := Option.some.inj ho
                have kk := fun lx ox ax => tstep_new (P := Try.prog) (T := TT b m k (scrT tg) M M') (c := 6) (m := m) (R := RLp b Y key x.need a3 CL.length c3 CL xe2 rc2) (s := 11) (l := lx) (w0 := w5) (L := L) (xs := [x0, x1, x2, x3, x4, x5, x6, x7, x8, x9, x10, x11]) (lo := lo) (hi := hi') (o := ox) (a := ax) (w := wr) (i := 10) (k := 10) (HTS.out) hmd.ph (by decide) (by decide) (.pointer (some ⟨wr.heap.size, 0, none⟩)) (.cells #[.string ⟨#[]⟩, .int .u32 0, .int .i64 0, .string ⟨#[]⟩, .int .i64 0] 41)
                refine kk _ _ _ ?_ ?_
                · kernel_rfl
                · exact ⟨_, Nat.le_refl _, rfl, fun _ => ⟨by simp, heap_alloc_new wr _⟩⟩
              | 11, ho =>
                obtain rfl := Option.some.inj ho
                have h_8 : x8 = .agg #[.string xe2.id, .int .u32 xe2.idx, .int .i64 xe2.val, .string xe2.script, .int .i64 xe2.ht] := hmd.rel 8 (hpre 8 (by kernel_rfl))
                subst h_8
                have r10 : ∃ q, lo 10 ≤ q ∧ x10 = .pointer (some ⟨q, 0, none⟩) ∧ (¬ L 11 → q < hi' 10 ∧ wr.heap[q]? = some (.cells #[.string ⟨#[]⟩, .int .u32 0, .int .i64 0, .string ⟨#[]⟩, .int .i64 0] 41 (0, 0))) := hmd.rel 10 (hpre 10 (by kernel_rfl))
                cases r10 with
                | intro bk h10 =>
                cases h10 with
                | intro _ h10 =>
                cases h10 with
                | intro h10 _ =>
                cases h10
                have kk := fun lx ox ax => tstep_row (P := Try.prog) (T := TT b m k (scrT tg) M M') (c := 6) (m := m) (R := RLp b Y key x.need a3 CL.length c3 CL xe2 rc2) (s := 11) (l := lx) (n := 12) (w0 := w5) (L := L) (xs := [x0, x1, x2, x3, x4, x5, x6, x7, .agg #[.string xe2.id, .int .u32 xe2.idx, .int .i64 xe2.val, .string xe2.script, .int .i64 xe2.ht], x9, .pointer (some ⟨bk, 0, none⟩), x11]) (lo := lo) (hi := hi') (o := ox) (a := ax) (w := wr) (k := 10) HTS.out (by decide) 41 (.tmp 17) (.tmp 86) 41 #[.string ⟨#[]⟩, .int .u32 0, .int .i64 0, .string ⟨#[]⟩, .int .i64 0] #[.string xe2.id, .int .u32 xe2.idx, .int .i64 xe2.val, .string xe2.script, .int .i64 xe2.ht] bk
                refine kk _ _ _ ?_ ?_ ?_ ?_ ?_ ?_ ?_ ?_ ?_ ?_ ?_ ?_ ?_ ?_ ?_
                · exact rfl
                · exact rfl
                · exact rfl
                · exact hmd
                · exact hni
                · exact hpre 10 (by kernel_rfl)
                · rfl
                · rfl
                · kernel_rfl
                · kernel_rfl
                · kernel_rfl
                · rfl
                · kernel_rfl
                · kernel_rfl
                · kernel_rfl
              | q + 12, ho => omega
            · intro xs lo hi wr hmd
              obtain ⟨x0, x1, x2, x3, x4, x5, x6, x7, x8, x9, x10, x11, rfl⟩ : ∃ x0 x1 x2 x3 x4 x5 x6 x7 x8 x9 x10 x11, xs = [x0, x1, x2, x3, x4, x5, x6, x7, x8, x9, x10, x11] := by match xs, hmd.len with | [x0, x1, x2, x3, x4, x5, x6, x7, x8, x9, x10, x11], _ => exact ⟨_, _, _, _, _, _, _, _, _, _, _, _, rfl⟩
              simp only [putAll]
              change wpList _ _ _ (_ :: []) _ _
              have hx8 : x8 = .agg #[.string xe2.id, .int .u32 xe2.idx, .int .i64 xe2.val, .string xe2.script, .int .i64 xe2.ht] := hmd.rel 8 (by decide)
              have hx9 : x9 = .int .i64 rc2 := hmd.rel 9 (by decide)
              have r11 := hmd.st (show 11 < 12 by decide) (x := x10) (y := x8) (t := 41) rfl (by kernel_rfl) (by kernel_rfl)
              have hl11 := (hmd.lohi 11 (by decide)).1
              have hbel := hmd.bel
              have hrs := hmd.ph.1 (show 6 < 12 by decide)
              clear hmd
              subst hx8 hx9
              obtain ⟨E, csE, hE1, hE2, h10, h8, gE⟩ := r11
              subst h10
              obtain rfl : csE = #[.string xe2.id, .int .u32 xe2.idx, .int .i64 xe2.val, .string xe2.script, .int .i64 xe2.ht] := by injection h8 with e; exact e.symm
              have hy2 := grown_cells hbel (show (⟨Y, 2, none⟩ : Addr).block ≠ m by have := HYLT.out; show Y ≠ m; omega) y2
              have HE := Lib.hid gE
              have HELT := Lib.hid (show m < E ∧ Z < E by have := HLT.out; omega)
              have HST := Lib.hid (HST.out.lease hbel hrs)
              have HSO := Lib.hid (HSO.out.grown hbel HYS.out)
              clear hl11 hbel hrs hE1 hE2 h8 gE y2 HLC HTS
              have z0 : wr.cell? ⟨Z, 0, none⟩ = some (.int .u16 tg) := cell_at HST.out.q
              have z1 : wr.cell? ⟨Z, 1, none⟩ = some (.slice qa L.length qc) := cell_at HST.out.q
              have y2 : wr.cell? ⟨Y, 2, none⟩ = some (.int .i64 x.need) := hy2
              go_wp2_with fail
              refine (HTC.out wr HST.out.sl HSO.out.sl).mono ?_
              rintro e w8 ⟨v, rfl, hv, hxc, hvo⟩
              dsimp only
              rw [HSC.out]
              have hfar : ∀ B, v.ownBlock = some B → w.heap.size ≤ B ∧ B ≠ m ∧ B ≠ Z := by
                intro B hB
                rcases hvo with rfl | h
                · exact HST.out.far B hB
                · have h1 := h B hB
                  have h2 := HST.out.lt
                  have h3 := HST.out.bel.size
                  omega
              obtain ⟨va, vc, hve, -, -⟩ := hv.shape
              subst hve
              have HV := Lib.hid hv
              have HFAR := Lib.hid hfar
              have HST := Lib.hid (HST.out.below hxc)
              have HSO := Lib.hid (HSO.out.below hxc)
              have HE := Lib.hid (stay HE.out hxc)
              clear hv hvo hfar hxc z0 z1 y2 HTC
              go_upto_region 17 with fail
              obtain ⟨U, hU⟩ : ∃ q, q = w8.heap.size := ⟨_, rfl⟩
              have hnews := new2 w8 U hU (.cells #[.int .u16 tg, .slice va L2.length vc] 61) (.cells #[.string xe2.id, .int .u32 xe2.idx, .int .i64 xe2.val, .string xe2.script, .int .i64 xe2.ht] 63)
              rw [← hU]
              generalize ((w8.alloc (.cells #[.int .u16 tg, .slice va L2.length vc] 61)).alloc (.cells #[.string xe2.id, .int .u32 xe2.idx, .int .i64 xe2.val, .string xe2.script, .int .i64 xe2.ht] 63)) = w9 at *
              obtain ⟨hz0, hz1, hal⟩ := hnews
              have HLTU := Lib.hid (show m < U ∧ Z < U by have h2 := HST.out.lt; omega)
              have HST := Lib.hid (HST.out.below hal)
              have HSO := Lib.hid (HSO.out.below hal)
              have HV := Lib.hid (HV.out.below hal)
              have HE := Lib.hid (stay HE.out hal)
              have hset := HST.out.setq HV.out HFAR.out
              obtain ⟨-, t2, -⟩ := two_cells HST.out.q (.int .u16 tg) (.slice va L2.length vc)
              have HSET := Lib.hid hset
              have HSOF := Lib.hid (show EnOwn 63 w4.heap.size _ (.slice a3 CL.length c3) CL from HSO.out.kept fun B hB => t2 B (by have := (HSLT.out B hB).2.1; omega))
              have z0 : w9.cell? ⟨Z, 0, none⟩ = some (.int .u16 tg) := cell_at HST.out.q
              have z1 : w9.cell? ⟨Z, 1, none⟩ = some (.slice qa L.length qc) := cell_at HST.out.q
              have g0 : w9.frozen? ⟨Z, 0, none⟩ = false := free_at HST.out.q
              have g1 : w9.frozen? ⟨Z, 1, none⟩ = false := free_at HST.out.q
              have u0 : w9.cell? ⟨U, 0, none⟩ = some (.int .u16 tg) := cell_at hz0
              have u1 : w9.cell? ⟨U, 1, none⟩ = some (.slice va L2.length vc) := cell_at hz0
              have v0 : w9.cell? ⟨U + 1, 0, none⟩ = some (.string xe2.id) := cell_at hz1
              have v1 : w9.cell? ⟨U + 1, 1, none⟩ = some (.int .u32 xe2.idx) := cell_at hz1
              have v2 : w9.cell? ⟨U + 1, 2, none⟩ = some (.int .i64 xe2.val) := cell_at hz1
              have v3 : w9.cell? ⟨U + 1, 3, none⟩ = some (.string xe2.script) := cell_at hz1
              have v4 : w9.cell? ⟨U + 1, 4, none⟩ = some (.int .i64 xe2.ht) := cell_at hz1
              have e0 : w9.cell? ⟨E, 0, none⟩ = some (.string xe2.id) := cell_at HE.out
              have e1 : w9.cell? ⟨E, 1, none⟩ = some (.int .u32 xe2.idx) := cell_at HE.out
              have e2 : w9.cell? ⟨E, 2, none⟩ = some (.int .i64 xe2.val) := cell_at HE.out
              have e3 : w9.cell? ⟨E, 3, none⟩ = some (.string xe2.script) := cell_at HE.out
              have e4 : w9.cell? ⟨E, 4, none⟩ = some (.int .i64 xe2.ht) := cell_at HE.out
              have heq : ∀ w : World, (Op.equalIn 10000 35 (.agg #[.string xe2.id, .int .u32 xe2.idx]) (.agg #[.string xe2.id, .int .u32 xe2.idx])).run Try.prog w = .ok true w := fun w => by
                have h1 := eqIn_pt xe2.pt xe2.pt w
                rw [decide_eq_true rfl] at h1
                exact h1
              have heqc := eqIn_coin xe2
              have hrr : (rc2 == rc2) = true := by simp
              clear hz0 hz1 hal hU hset t2
              go_wp2_with fail
              go_meet
              exact ⟨M', L2, _, HSET.out, HAG'.out, HSOF.out⟩
        case rest =>
          obtain ⟨M2, L2, sv2, hst, hag, hso⟩ := hcut
          rename World => wx
          obtain ⟨va, vc, hve, -, -⟩ := hst.sl.shape
          subst hve
          have HST2 := Lib.hid hst
          have HAG2 := Lib.hid hag
          have HSO2 := Lib.hid hso
          clear hst hag hso
          go_wp2_with fail
          refine (listed_any _ CL wx HSO2.out.sl HCLL.out).mono ?_
          rintro e w6 ⟨v4, rfl, hlo, hxc⟩
          have HLO := Lib.hid hlo
          have HST2 := Lib.hid (HST2.out.below hxc)
          have HSO2 := Lib.hid (HSO2.out.below hxc)
          obtain ⟨a4, c4, rfl, -, -⟩ := ownsRow_shape hlo.row
          clear hlo hxc
          go_wp2_with fail
          refine (psums_any b m (scrT tg) M2 _ CL w6 HST2.out.rs HLO.out.sl).mono ?_
          rintro e w7 ⟨rfl, hxc⟩
          have HST2 := Lib.hid (HST2.out.below hxc)
          have HSO2 := Lib.hid (HSO2.out.below hxc)
          have hsum : sumP (scrT tg) (takenL L2) CL = sumP (scrT tg) (takenB M2) CL := by rw [show takenL L2 = takenB M2 from funext HAG2.out.taken]
          have HRS := Lib.hid (hsum ▸ rsums_any tg _ _ L2 CL w7 HST2.out.sl HSO2.out.sl HTG.out)
          generalize sumP (scrT tg) (takenB M2) CL = ss at *
          clear hxc hsum
          obtain ⟨s1, s2⟩ := ss
          dsimp only
          have z0 : w7.cell? ⟨Z, 0, none⟩ = some (.int .u16 tg) := cell_at HST2.out.q
          have z1 : w7.cell? ⟨Z, 1, none⟩ = some (.slice va L2.length vc) := cell_at HST2.out.q
          go_wp2_with fail
          refine HRS.out.mono ?_
          rintro e w8 ⟨rfl, hxc⟩
          dsimp only
          have HST2 := Lib.hid (HST2.out.below hxc)
          clear hxc z0 z1 HRS
          have z0 : w8.cell? ⟨Z, 0, none⟩ = some (.int .u16 tg) := cell_at HST2.out.q
          have z1 : w8.cell? ⟨Z, 1, none⟩ = some (.slice va L2.length vc) := cell_at HST2.out.q
          go_wp2_with fail
          refine (same23_any b m (scrT tg) M2 L2 tg _ w8 HST2.out.rs (by omega) HAG2.out HST2.out.sl).mono ?_
          rintro e w9 ⟨rfl, hxc⟩
          have HST2 := Lib.hid (HST2.out.below hxc)
          clear hxc z0 z1
          have h1 : (s1 == s1) = true := by simp
          have h2 : (s2 == s2) = true := by simp
          go_wp2_with fail
          go_roundg (mo - (k + 1))
          case measure => have := HGK.out; omega
          case rel => exact ⟨k + 1, M2, L2, _, rfl, by omega, by go_num, HST2.out, HAG2.out⟩
    · obtain rfl : k = mo := by omega
      go_wp2_with fail
      refine (wakes23_any wo).mono ?_
      rintro e w2 ⟨rfl, hxc⟩
      go_wp2_with fail
      go_ret
      exact ⟨rfl, HST.out.bel.trans (hxc.mono HST.out.bel.size)⟩
end Go.Proofs.Ytelindgnkpfkiaa
end
