/-
  MinerOrder, part 4: the texts Rego, Mt, Mv, My, Ml, Mm, Mn, one after another. Conditions: none beyond those named at each.
-/
import Derived.Test.YtfkcldaogfengaaReg
import Derived.Test.YtfkcldaogfengaaQ3MinerOrder
import Derived.Test.YtfkcldaogfengaaNew
import Derived.BigRegion
import Derived.Test.YtfkcldaogfengaaMk
import Derived.Test.YtfkcldaogfengaaQ2MinerOrder
section
/-
  A region that draws its order: operations that make memory of their own, in any order; what has not been run yet holds what it held. Conditions: those named in wp_region_open.
-/
namespace Go.Proofs.Ytfkcldaogfengaa
open Go.RowKit Go.BigFrame
set_option linter.unusedVariables false
section
variable {P : Program} {l : List Oper}
theorem wp_region_open (R : Nat → Fact) (n : Nat) {id : Nat} {Q : Exit → Act → World → Prop} {a0 : Act} {w0 : World} (hm : P.follows .mixedOrders = true) (hb : backB .any l.toArray = true)
    (hg : (l.all fun o => o.guard.isNone) = true) (hd : dstB l = true) (hn : l.length = n)
    (hstep : ∀ i o, i < n → l[i]? = some o → ∀ (L : Nat → Prop) (xs : List Value) (lo hi : Nat → Nat) (w : World), Made R l n w0 L xs lo hi w → (∀ j, ¬ L j → xs.getD j undef = (ownVals a0 l).getD j undef) → ¬ L i → (∀ d, (deps l i).contains d = true → L d) →
      o.wp P (putAll a0 l xs) w (fun a' w' => ∃ v, a' = (putAll a0 l xs).put o.dst v ∧ Below w.heap.size w w' ∧ (R i).p v ((deps l i).map fun d => xs.getD d undef) w.heap.size w'.heap.size w') (fun _ _ _ => False))
    (hend : ∀ (xs : List Value) (lo hi : Nat → Nat) (w : World), Made R l n w0 (fun j => j < n) xs lo hi w → Q .normal (putAll a0 l xs) w) :
    (Code.region id l.toArray true).wp P Q a0 w0 := by
  subst hn
  refine wp_region_inv2 (fun L a w => ∃ xs lo hi, a = putAll a0 l xs ∧ Made R l l.length w0 L xs lo hi w ∧ ∀ j, ¬ L j → xs.getD j undef = (ownVals a0 l).getD j undef) hm hb ?_ ?_ ?_
  · refine ⟨_, _, _, (putAll_own l a0 l.length).symm, Made.start (Nat.le_refl _) w0, fun j _ => ?_⟩
    rw [List.take_of_length_le (by simp [ownVals])]
  · rintro L i a w hil hni hpre ⟨xs, lo, hi, rfl, hmd, hun⟩
    obtain ⟨o, ho⟩ : ∃ o, l[i]? = some o := ⟨_, List.getElem?_eq_getElem hil⟩
    have hoa : l.toArray[i]? = some o := by simpa using ho
    have hgo : o.guard = none := by
      have := List.all_eq_true.1 hg o (List.mem_of_getElem? ho)
      simpa using this
    unfold wpOp
    rw [hoa]
    simp only [Region.wanted, hgo, if_true]
    refine .inl (wp_weaken ?_ (fun _ _ _ h => h.elim) (fun ⟨_, _, h⟩ => h.elim) (hstep i o hil ho L xs lo hi w hmd hun hni hpre))
    rintro a' w' ⟨v, rfl, hbel, hr⟩
    have hmd' := hmd.step hil hni hpre hbel hr
    rw [putAll_put l xs a0 i o v hd ho (by rw [hmd.len]; exact hil)]
    refine ⟨_, _, _, rfl, hmd', fun j hj => ?_⟩
    have hji : ¬ i = j := fun e => hj (.inl e.symm)
    have h1 := hun j fun h => hj (.inr h)
    rw [← h1]
    simp [List.getD, List.getElem?_set_ne hji]
  · rintro L a w hall ⟨xs, lo, hi, rfl, hmd, -⟩
    have he : L = fun j => j < l.length := by
      funext j
      exact propext ⟨hmd.lt j, hall j⟩
    exact hend xs lo hi w (he ▸ hmd)
end
end Go.Proofs.Ytfkcldaogfengaa
end

section
/-
  kedgelaw21.listed: the entries of a script. Conditions: the script lies in memory.
-/
namespace Go.Proofs.Ytfkcldaogfengaa
open Go.RowKit Go.BigFrame
set_option linter.unusedVariables false
set_option linter.unusedSimpArgs false

theorem SlAt.sm {w : World} {a : Option Addr} {n c i : Nat} {xs : List PSm} (h : SlAt rpSm w (.slice a n c) xs) (hi : i < n) : ∃ (b o : Nat) (z : PSm) (sa : Option Addr) (sn sc : Nat), a = some ⟨b, o, none⟩ ∧ xs[i]? = some z ∧ z.Ok0 ∧ NatsAt w (.slice sa sn sc) z.from_ ∧
    w.cell? ⟨b, o + i * 6, none⟩ = some (.slice sa sn sc) ∧ w.cell? ⟨b, o + i * 6 + 1, none⟩ = some (.int .u8 z.index) ∧ w.cell? ⟨b, o + i * 6 + 2, none⟩ = some (.int .u8 z.outs) ∧ w.cell? ⟨b, o + i * 6 + 3, none⟩ = some (.int .i64 z.fee) ∧
    w.cell? ⟨b, o + i * 6 + 4, none⟩ = some (.int .u8 z.mark) ∧ w.cell? ⟨b, o + i * 6 + 5, none⟩ = some (.int .u8 z.long) := by
  obtain ⟨b, o, z, cs, h1, h2, h3, h4, v, h5, h6, h7⟩ := h.at hi
  subst h5
  obtain ⟨sa, sc, rfl, -, -⟩ := SlAt.shape h6
  exact ⟨b, o, z, sa, _, sc, h1, h2, h7, h6, h4 0 _ rfl, h4 1 _ rfl, h4 2 _ rfl, h4 3 _ rfl, h4 4 _ rfl, h4 5 _ rfl⟩
/-- Entries in blocks that an operation made, or in older ones. -/
def Fact.ents (l : List PE) : Fact := ⟨fun v _ lo hi w => ∃ (u : Value) (c : Int) (wx : World), v = .tuple #[u, .int .i64 c] ∧ wx.heap.size = hi ∧ SlAt rpE wx u l ∧ ∀ b, b < hi → w.heap[b]? = wx.heap[b]?, by
  rintro v d lo hi w w' hk ⟨u, c, wx, h1, h2, h3, h4⟩
  exact ⟨u, c, wx, h1, h2, h3, fun b hb => (hk b hb).trans (h4 b hb)⟩⟩
def Fact.txn (t : PTx) : Fact := ⟨fun v _ lo hi w => ∃ wx, wx.heap.size = hi ∧ TxOwn lo wx v t ∧ ∀ b, b < hi → w.heap[b]? = wx.heap[b]?, by
  rintro v d lo hi w w' hk ⟨wx, h1, h2, h3⟩
  exact ⟨wx, h1, h2, fun b hb => (hk b hb).trans (h3 b hb)⟩⟩
def ListP (l : List PE) (w : World) (e : Ending) (w' : World) : Prop := ∃ v, e = .returned v ∧ SlAt rpE w' v l ∧ Below w.heap.size w w'
theorem SlAt.ents_kept {wx w : World} {v : Value} {l : List PE} (h : SlAt rpE wx v l) (hk : ∀ b, b < wx.heap.size → w.heap[b]? = wx.heap[b]?) : SlAt rpE w v l :=
  h.mono fun a u hc => by
    have hb : a.block < wx.heap.size := World.block_lt_of_cell? _ a hc
    rw [World.cell?_of_block (hk a.block hb)]
    exact hc
theorem txn_at {t : PTx} {v : Value} {d : List Value} {lo hi : Nat} {w : World} (h : (Fact.txn t).p v d lo hi w) : TxAt w v t := by
  obtain ⟨wx, rfl, ⟨⟨vi, vo, ps, rfl, hp, h1, h2, h3⟩, h4, h5⟩, hk⟩ := h
  exact TxOwn.tx (base := lo) ⟨⟨vi, vo, ps, rfl, hp, h1.kept fun b hb => hk b (h1.lt hb).2, h2.kept fun b hb => hk b (h2.row.lt b hb).2, h3⟩, h4, h5⟩
def ext0 : Value → Value
  | .tuple xs => xs.getD 0 undef
  | _ => undef
def ext1 : Value → Value
  | .tuple xs => xs.getD 1 undef
  | _ => undef
/-- Make, Add: what the operations give. -/
def RLs (sv zv : Value) (X : Nat) (t : PTx) (fee : Int) (r : List PE) : Nat → Fact
  | 0 => .val fun _ => sv
  | 1 => .val fun _ => sv
  | 2 => .val fun _ => zv
  | 3 => .txn t
  | 4 => .val fun _ => .pointer (some ⟨X, 3, none⟩)
  | 5 => .val fun _ => .int .i64 fee
  | 6 => .ents r
  | 7 => .val fun d => d.getD 0 undef
  | 8 => .is fun v d => ∃ c : Value, d.getD 0 undef = .tuple #[v, c]
  | 10 => .val fun d => d.getD 0 undef
  | _ => .any
set_option maxRecDepth 100000 in
set_option maxHeartbeats 4000000 in
theorem listed21_any (sl : Value) (zs : List PSm) (most : Nat) (w : World) (hsl : SlAt rpSm w sl zs) (hm : most ≤ 100) : Calls Try.prog 8 #[sl, .int .i64 (most : Int)] w (ListP (listL (zs.take most)) w) := by
  have HSL := Lib.hid hsl
  obtain ⟨a, c, rfl, hl1, hl2⟩ := hsl.shape
  rw [maxLen_eq] at hl2
  obtain ⟨n, hn⟩ : ∃ n, n = zs.length := ⟨_, rfl⟩
  rw [← hn] at hl1 HSL ⊢
  obtain ⟨mo, hmo⟩ : ∃ mo, mo = min n most := ⟨_, rfl⟩
  have hmin : min (n : Int) (most : Int) = (mo : Int) := by omega
  have hmn : mo ≤ n := by omega
  have hm100 : mo ≤ 100 := by omega
  have HFIN := Lib.hid (show zs.take most = zs.take mo by
    rw [hmo, hn]
    by_cases h : zs.length ≤ most
    · rw [List.take_of_length_le h, show min zs.length most = zs.length by omega, List.take_length]
    · rw [show min zs.length most = most by omega])
  have HN := Lib.hid hn
  have HMO := Lib.hid hmo
  clear hsl hn hmo hm
  go_enter Try.func8, Try.ntmps8
  go_wp2_with fail
  go_loopg [5, 15] mo (fun g v i wr => ∃ (k : Nat), g = mo - k ∧ k ≤ mo ∧ i = .int .i64 k ∧ SlAt rpE wr v (listL (zs.take k)) ∧ Below w.heap.size w wr)
  case atStart => exact ⟨0, by omega, by omega, rfl, (show SlAt rpE w (.slice none 0 0) [] from ⟨none, 0, rfl, Nat.le_refl _, Nat.zero_le _, fun i x hi => by simp at hi⟩), Below.refl _ _⟩
  case round =>
    rename World => wo
    rename Value => u
    obtain ⟨k, hgk, hk, rfl, hent, hb⟩ := hrel
    have HGK := Lib.hid hgk
    have HB := Lib.hid hb
    have HENT := Lib.hid hent
    obtain ⟨la, lc, rfl, -, -⟩ := hent.shape
    obtain ⟨L, hL⟩ : ∃ L, L = listL (zs.take k) := ⟨_, rfl⟩
    rw [← hL] at HENT ⊢
    have HL := Lib.hid hL
    have HLL := Lib.hid (show L.length ≤ 1000 by
      have h1 := listL_len (zs.take k)
      rw [← hL, List.length_take] at h1
      omega)
    obtain ⟨ln, hln⟩ : ∃ ln, ln = L.length := ⟨_, rfl⟩
    rw [← hln] at HENT ⊢
    clear hgk hent hb hL hln
    by_cases hlt : k < mo
    · obtain ⟨sb, so, z, sa, sn, sc, rfl, hz, hzo, hzf, d0, d1, d2, d3, d4, d5⟩ := (HSL.out.below HB.out).sm (Nat.lt_of_lt_of_le hlt hmn)
      have HZ := Lib.hid hz
      have HZO := Lib.hid hzo
      have HZF := Lib.hid hzf
      obtain ⟨lg, hlg⟩ : ∃ lg, lg = z.long % 8 := ⟨_, rfl⟩
      have e8 : (z.long : Int).tmod 8 = (lg : Int) := by rw [Int.tmod_eq_emod_of_nonneg (by omega)]; omega
      have e8' : (z.long : Int) % 8 = (lg : Int) := by omega
      obtain ⟨fe, hfe⟩ : ∃ fe, fe = feeOf z.fee := ⟨_, rfl⟩
      have ef : bits .and .i64 z.fee 1073741823 = fe := hfe.symm
      have HNZ := Lib.hid (show (normZ z) = ⟨z.from_, z.index, z.outs, fe, z.mark, lg⟩ by unfold normZ; rw [hlg, hfe])
      have HLS := Lib.hid (show listL (zs.take (k + 1)) = addL L (makeT L ⟨z.from_, z.index, z.outs, fe, z.mark, lg⟩) fe by
        rw [list_next hz, ← HL.out]
        unfold listS
        rw [← hfe, HNZ.out])
      have HOK := Lib.hid (show PSm.Ok ⟨z.from_, z.index, z.outs, fe, z.mark, lg⟩ from HNZ.out ▸ normZ_ok hzo)
      have HFE := Lib.hid (show -9223372036854775808 ≤ fe ∧ fe ≤ 9223372036854775807 by have := feeOf_le z.fee; omega)
      clear hz hzo hzf hlg hfe
      go_upto_region 7 with fail
      have hz := heap_alloc_new wo (.cells #[.slice sa sn sc, .int .u8 z.index, .int .u8 z.outs, .int .i64 fe, .int .u8 z.mark, .int .u8 lg] 54)
      have hal : Below wo.heap.size wo (wo.alloc (.cells #[.slice sa sn sc, .int .u8 z.index, .int .u8 z.outs, .int .i64 fe, .int .u8 z.mark, .int .u8 lg] 54)) := (Below.refl _ _).alloc (Nat.le_refl _) _
      obtain ⟨X, hX⟩ : ∃ q, q = wo.heap.size := ⟨_, rfl⟩
      rw [← hX] at hz ⊢
      generalize wo.alloc (.cells #[.slice sa sn sc, .int .u8 z.index, .int .u8 z.outs, .int .i64 fe, .int .u8 z.mark, .int .u8 lg] 54) = wf at *
      have q0 : wf.cell? ⟨X, 0, none⟩ = some (.slice sa sn sc) := cell_at hz
      have q1 : wf.cell? ⟨X, 1, none⟩ = some (.int .u8 z.index) := cell_at hz
      have q2 : wf.cell? ⟨X, 2, none⟩ = some (.int .u8 z.outs) := cell_at hz
      have q3 : wf.cell? ⟨X, 3, none⟩ = some (.int .i64 fe) := cell_at hz
      have q4 : wf.cell? ⟨X, 4, none⟩ = some (.int .u8 z.mark) := cell_at hz
      have q5 : wf.cell? ⟨X, 5, none⟩ = some (.int .u8 lg) := cell_at hz
      have HENF := Lib.hid (HENT.out.below hal)
      have HZF2 := Lib.hid (show NatsAt wf (.slice sa sn sc) z.from_ from SlAt.below HZF.out hal)
      have HBF := Lib.hid (HB.out.trans (hal.mono HB.out.size))
      have HOU := Lib.hid (show (makeT L ⟨z.from_, z.index, z.outs, fe, z.mark, lg⟩).outs.length ≤ 1000 by have := makeT_outs (l := L) HOK.out.long; omega)
      obtain ⟨T, hT⟩ : ∃ T, T = makeT L ⟨z.from_, z.index, z.outs, fe, z.mark, lg⟩ := ⟨_, rfl⟩
      have HMK := Lib.hid (fun (wr : World) (h : Below wf.heap.size wf wr) => hT ▸ make14_any (.slice la ln lc) (.slice sa sn sc) L ⟨z.from_, z.index, z.outs, fe, z.mark, lg⟩ wr (HENF.out.below h) (SlAt.below HZF2.out h) HOK.out HLL.out)
      rw [← hT] at HOU
      have HLS := Lib.hid (show listL (zs.take (k + 1)) = addL L T fe by rw [hT]; exact HLS.out)
      obtain ⟨RR, hRR⟩ : ∃ RR, RR = addL L T fe := ⟨_, rfl⟩
      have HAD := Lib.hid (fun (wr : World) (tv : Value) (h : Below wf.heap.size wf wr) (ht : TxAt wr tv T) => hRR ▸ add14_any (.slice la ln lc) tv L T fe wr (HENF.out.below h) ht HOU.out HLL.out HFE.out)
      have HLS := Lib.hid (HLS.out.trans hRR.symm)
      clear hz hal hX hT hRR d0 d1 d2 d3 d4 d5 e8 e8' ef
      refine wp_region_open (RLs (.slice la ln lc) (.agg #[.slice sa sn sc, .int .u8 z.index, .int .u8 z.outs, .int .i64 fe, .int .u8 z.mark, .int .u8 lg]) X T fe RR) 11 (by kernel_rfl) (by kernel_rfl) (by kernel_rfl) (by kernel_rfl) (by kernel_rfl) ?_ ?_
      · intro i o hi ho L xs lo hi' wr hmd hun hni hpre
        obtain ⟨x0, x1, x2, x3, x4, x5, x6, x7, x8, x9, x10, rfl⟩ : ∃ x0 x1 x2 x3 x4 x5 x6 x7 x8 x9 x10, xs = [x0, x1, x2, x3, x4, x5, x6, x7, x8, x9, x10] := by match xs, hmd.len with | [x0, x1, x2, x3, x4, x5, x6, x7, x8, x9, x10], _ => exact ⟨_, _, _, _, _, _, _, _, _, _, _, rfl⟩
        match i, ho with
        | 0, ho =>
          obtain rfl := Option.some.inj ho
          have h10 : x10 = .slice la ln lc := hun 10 fun h => hni (hmd.closed 10 h 0 (by kernel_rfl))
          subst h10
          have kk := fun lx ox ax => @step_pure Try.prog (RLs (.slice la ln lc) (.agg #[.slice sa sn sc, .int .u8 z.index, .int .u8 z.outs, .int .i64 fe, .int .u8 z.mark, .int .u8 lg]) X T fe RR) lx [x0, x1, x2, x3, x4, x5, x6, x7, x8, x9, (.slice la ln lc)] ox ax wr 0 (.slice la ln lc)
          refine kk _ _ _ ?_ ?_
          · kernel_rfl
          · exact rfl
        | 1, ho =>
          obtain rfl := Option.some.inj ho
          have h10 : x10 = .slice la ln lc := hun 10 fun h => hni (hmd.closed 10 h 1 (by kernel_rfl))
          subst h10
          have kk := fun lx ox ax => @step_pure Try.prog (RLs (.slice la ln lc) (.agg #[.slice sa sn sc, .int .u8 z.index, .int .u8 z.outs, .int .i64 fe, .int .u8 z.mark, .int .u8 lg]) X T fe RR) lx [x0, x1, x2, x3, x4, x5, x6, x7, x8, x9, (.slice la ln lc)] ox ax wr 1 (.slice la ln lc)
          refine kk _ _ _ ?_ ?_
          · kernel_rfl
          · exact rfl
        | 2, ho =>
          obtain rfl := Option.some.inj ho
          have z0 := below_cells hmd.bel _ _ q0
          have z1 := below_cells hmd.bel _ _ q1
          have z2 := below_cells hmd.bel _ _ q2
          have z3 := below_cells hmd.bel _ _ q3
          have z4 := below_cells hmd.bel _ _ q4
          have z5 := below_cells hmd.bel _ _ q5
          have kk := fun lx ox ax => @step_pure Try.prog (RLs (.slice la ln lc) (.agg #[.slice sa sn sc, .int .u8 z.index, .int .u8 z.outs, .int .i64 fe, .int .u8 z.mark, .int .u8 lg]) X T fe RR) lx [x0, x1, x2, x3, x4, x5, x6, x7, x8, x9, x10] ox ax wr 2 (.agg #[.slice sa sn sc, .int .u8 z.index, .int .u8 z.outs, .int .i64 fe, .int .u8 z.mark, .int .u8 lg])
          refine kk _ _ _ ?_ ?_
          · simp [putAll, execOp, go_sem, z0, z1, z2, z3, z4, z5]
          · exact rfl
        | 3, ho =>
          obtain rfl := Option.some.inj ho
          have h_1 : x1 = .slice la ln lc := hmd.rel 1 (hpre 1 (by kernel_rfl))
          subst h_1
          have h_2 : x2 = .agg #[.slice sa sn sc, .int .u8 z.index, .int .u8 z.outs, .int .i64 fe, .int .u8 z.mark, .int .u8 lg] := hmd.rel 2 (hpre 2 (by kernel_rfl))
          subst h_2
          have kk := fun lx ox ax => @step_call Try.prog (RLs (.slice la ln lc) (.agg #[.slice sa sn sc, .int .u8 z.index, .int .u8 z.outs, .int .i64 fe, .int .u8 z.mark, .int .u8 lg]) X T fe RR) lx [x0, (.slice la ln lc), (.agg #[.slice sa sn sc, .int .u8 z.index, .int .u8 z.outs, .int .i64 fe, .int .u8 z.mark, .int .u8 lg]), x3, x4, x5, x6, x7, x8, x9, x10] ox ax wr 3 _ _ _ (HMK.out wr hmd.bel)
          refine kk _ _ _ ?_ ?_
          · kernel_rfl
          · exact fun e w' ⟨v, he, hown, hb⟩ => ⟨v, he, hb, w', rfl, hown, fun _ _ => rfl⟩
        | 4, ho =>
          obtain rfl := Option.some.inj ho
          have kk := fun lx ox ax => @step_pure Try.prog (RLs (.slice la ln lc) (.agg #[.slice sa sn sc, .int .u8 z.index, .int .u8 z.outs, .int .i64 fe, .int .u8 z.mark, .int .u8 lg]) X T fe RR) lx [x0, x1, x2, x3, x4, x5, x6, x7, x8, x9, x10] ox ax wr 4 (.pointer (some ⟨X, 3, none⟩))
          refine kk _ _ _ ?_ ?_
          · kernel_rfl
          · exact rfl
        | 5, ho =>
          obtain rfl := Option.some.inj ho
          have h_4 : x4 = .pointer (some ⟨X, 3, none⟩) := hmd.rel 4 (hpre 4 (by kernel_rfl))
          subst h_4
          have z3 := below_cells hmd.bel _ _ q3
          have kk := fun lx ox ax => @step_pure Try.prog (RLs (.slice la ln lc) (.agg #[.slice sa sn sc, .int .u8 z.index, .int .u8 z.outs, .int .i64 fe, .int .u8 z.mark, .int .u8 lg]) X T fe RR) lx [x0, x1, x2, x3, (.pointer (some ⟨X, 3, none⟩)), x5, x6, x7, x8, x9, x10] ox ax wr 5 (.int .i64 fe)
          refine kk _ _ _ ?_ ?_
          · simp [putAll, execOp, go_sem, z3]
          · exact rfl
        | 6, ho =>
          obtain rfl := Option.some.inj ho
          have h_0 : x0 = .slice la ln lc := hmd.rel 0 (hpre 0 (by kernel_rfl))
          subst h_0
          have h_5 : x5 = .int .i64 fe := hmd.rel 5 (hpre 5 (by kernel_rfl))
          subst h_5
          have kk := fun lx ox ax => @step_call Try.prog (RLs (.slice la ln lc) (.agg #[.slice sa sn sc, .int .u8 z.index, .int .u8 z.outs, .int .i64 fe, .int .u8 z.mark, .int .u8 lg]) X T fe RR) lx [(.slice la ln lc), x1, x2, x3, x4, (.int .i64 fe), x6, x7, x8, x9, x10] ox ax wr 6 _ _ _ (HAD.out wr x3 hmd.bel (txn_at (show (Fact.txn T).p x3 _ (lo 3) (hi' 3) wr from hmd.rel 3 (hpre 3 (by kernel_rfl)))))
          refine kk _ _ _ ?_ ?_
          · kernel_rfl
          · exact fun e w' ⟨v, c, he, hsl, hb⟩ => ⟨_, he, hb, v, c, w', rfl, rfl, hsl, fun _ _ => rfl⟩
        | 7, ho =>
          obtain rfl := Option.some.inj ho
          have kk := fun lx ox ax => @step_pure Try.prog (RLs (.slice la ln lc) (.agg #[.slice sa sn sc, .int .u8 z.index, .int .u8 z.outs, .int .i64 fe, .int .u8 z.mark, .int .u8 lg]) X T fe RR) lx [x0, x1, x2, x3, x4, x5, x6, x7, x8, x9, x10] ox ax wr 7 x6
          refine kk _ _ _ ?_ ?_
          · kernel_rfl
          · exact rfl
        | 8, ho =>
          obtain rfl := Option.some.inj ho
          have he7 : ∃ (u : Value) (c : Int), x7 = .tuple #[u, .int .i64 c] := by
            have e7 : x7 = x6 := hmd.rel 7 (hpre 7 (by kernel_rfl))
            obtain ⟨u, c, wx, e, -⟩ := (show (Fact.ents RR).p x6 _ (lo 6) (hi' 6) wr from hmd.rel 6 (hmd.closed 7 (hpre 7 (by kernel_rfl)) 6 (by kernel_rfl)))
            exact ⟨u, c, e7.trans e⟩
          have kk := fun lx ox ax => @step_pure Try.prog (RLs (.slice la ln lc) (.agg #[.slice sa sn sc, .int .u8 z.index, .int .u8 z.outs, .int .i64 fe, .int .u8 z.mark, .int .u8 lg]) X T fe RR) lx [x0, x1, x2, x3, x4, x5, x6, x7, x8, x9, x10] ox ax wr 8 (ext0 x7)
          refine kk _ _ _ ?_ ?_
          · obtain ⟨u, c, e⟩ := he7
            subst e
            kernel_rfl
          · obtain ⟨u, c, e⟩ := he7
            subst e
            exact ⟨_, rfl⟩
        | 9, ho =>
          obtain rfl := Option.some.inj ho
          have he7 : ∃ (u : Value) (c : Int), x7 = .tuple #[u, .int .i64 c] := by
            have e7 : x7 = x6 := hmd.rel 7 (hpre 7 (by kernel_rfl))
            obtain ⟨u, c, wx, e, -⟩ := (show (Fact.ents RR).p x6 _ (lo 6) (hi' 6) wr from hmd.rel 6 (hmd.closed 7 (hpre 7 (by kernel_rfl)) 6 (by kernel_rfl)))
            exact ⟨u, c, e7.trans e⟩
          have kk := fun lx ox ax => @step_pure Try.prog (RLs (.slice la ln lc) (.agg #[.slice sa sn sc, .int .u8 z.index, .int .u8 z.outs, .int .i64 fe, .int .u8 z.mark, .int .u8 lg]) X T fe RR) lx [x0, x1, x2, x3, x4, x5, x6, x7, x8, x9, x10] ox ax wr 9 (ext1 x7)
          refine kk _ _ _ ?_ ?_
          · obtain ⟨u, c, e⟩ := he7
            subst e
            kernel_rfl
          · exact trivial
        | 10, ho =>
          obtain rfl := Option.some.inj ho
          have kk := fun lx ox ax => @step_pure Try.prog (RLs (.slice la ln lc) (.agg #[.slice sa sn sc, .int .u8 z.index, .int .u8 z.outs, .int .i64 fe, .int .u8 z.mark, .int .u8 lg]) X T fe RR) lx [x0, x1, x2, x3, x4, x5, x6, x7, x8, x9, x10] ox ax wr 10 x8
          refine kk _ _ _ ?_ ?_
          · kernel_rfl
          · exact rfl
        | q + 11, ho => omega
      · intro xs lo hi wr hmd
        obtain ⟨x0, x1, x2, x3, x4, x5, x6, x7, x8, x9, x10, rfl⟩ : ∃ x0 x1 x2 x3 x4 x5 x6 x7 x8 x9 x10, xs = [x0, x1, x2, x3, x4, x5, x6, x7, x8, x9, x10] := by match xs, hmd.len with | [x0, x1, x2, x3, x4, x5, x6, x7, x8, x9, x10], _ => exact ⟨_, _, _, _, _, _, _, _, _, _, _, rfl⟩
        simp only [putAll]
        have e10 : x8 = x10 := (show x10 = x8 from hmd.rel 10 (by decide)).symm
        subst e10
        have e7 : x7 = x6 := hmd.rel 7 (by decide)
        obtain ⟨c8, e8⟩ : ∃ c : Value, x7 = .tuple #[x8, c] := hmd.rel 8 (by decide)
        obtain ⟨u6, c6, wx, e6, hsz, hsl6, hk6⟩ : (Fact.ents RR).p x6 _ (lo 6) (hi 6) wr := hmd.rel 6 (by decide)
        have e9 : x8 = u6 := by
          rw [e7, e6] at e8
          injection e8 with e8
          have := congrArg (fun a : Array Value => a[0]?) e8
          simpa using this.symm
        subst e9
        have HFI := Lib.hid (SlAt.ents_kept hsl6 (fun b hb => hk6 b (by omega)))
        have HBE := Lib.hid (HBF.out.trans (hmd.bel.mono HBF.out.size))
        clear hmd e7 e8 e6 hsz hsl6 hk6 q0 q1 q2 q3 q4 q5
        go_wp2_with fail
        go_roundg (mo - (k + 1))
        case measure => have := HGK.out; omega
        case rel => exact ⟨k + 1, rfl, by omega, by go_num, by rw [HLS.out]; exact HFI.out, HBE.out⟩
    · obtain rfl : mo = k := by omega
      go_wp2_with fail
      go_ret
      exact ⟨_, rfl, by rw [HFIN.out, ← HL.out]; exact HENT.out, HB.out⟩
end Go.Proofs.Ytfkcldaogfengaa
end

section
/-
  What the document fixes of the miner: three entries, their ids, what is taken of them. Conditions: none.
-/
namespace Go.Proofs.Ytfkcldaogfengaa
open Go.RowKit Go.BigFrame
set_option linter.unusedVariables false
set_option linter.unusedSimpArgs false
set_option maxRecDepth 100000

/-! ### digests by reckoning -/
def blkL (m : Nat → W32) (h : St) : St := addSt h (rounds (fun i => (schL m 64).getD (63 - i) 0) h 64)
theorem sum_one {l : List UInt8} (h : (padL l).length / 64 = 1) : sumL l = stL (blkL (msgL (padL l) 0) hSt) := by
  unfold sumL
  rw [h]
  show stL (blk _ hSt) = _
  rw [blk_list]
  rfl
theorem sum_two {l : List UInt8} (h : (padL l).length / 64 = 2) : sumL l = stL (blkL (msgL (padL l) 64) (blkL (msgL (padL l) 0) hSt)) := by
  unfold sumL
  rw [h]
  show stL (blk _ (blk _ hSt)) = _
  rw [blk_list, blk_list]
  rfl
theorem tw_sum (l : List UInt8) : tw l = bL (sumL (sumL l)) := by
  show bL (sumL (bL (sumL (bL l).data.toList)).data.toList) = _
  rw [bL_list, bL_list]
def iA : ByteArray := bL [25, 42, 22, 115, 193, 51, 64, 181, 222, 26, 82, 10, 253, 151, 117, 98, 228, 107, 119, 5, 141, 58, 45, 0, 248, 199, 16, 181, 194, 251, 33, 230]
def iB : ByteArray := bL [13, 247, 109, 113, 171, 55, 144, 65, 50, 147, 238, 99, 235, 84, 133, 112, 51, 187, 23, 136, 42, 154, 237, 72, 204, 83, 214, 84, 59, 24, 33, 79]
def iC : ByteArray := bL [224, 231, 132, 22, 155, 147, 84, 141, 189, 81, 171, 96, 167, 26, 13, 249, 123, 4, 161, 235, 106, 182, 26, 208, 68, 46, 184, 58, 28, 38, 199, 133]
def tA : PTx := ⟨2, [⟨idB 8, 0, 4294967293, []⟩], [⟨1000, scr9⟩], 0⟩
def tB : PTx := ⟨2, [⟨iA, 0, 4294967293, []⟩], [⟨1000, scr9⟩], 0⟩
def tC : PTx := ⟨2, [⟨idB 9, 0, 4294967293, []⟩], [⟨1000, scr9⟩], 0⟩
theorem encA : encL tA false = [2, 0, 0, 0, 1, 8, 5, 0, 2, 4, 5, 6, 7, 0, 13, 8, 10, 12, 13, 14, 15, 24, 21, 16, 18, 20, 21, 22, 23, 16, 29, 24, 26, 28, 29, 30, 31, 0, 0, 0, 0, 0, 253, 255, 255, 255, 1, 232, 3, 0, 0, 0, 0, 0, 0, 9, 1, 1, 0, 0, 0, 0, 0, 0, 0, 0, 0, 0, 0] := by kernel_rfl
theorem sumA1 : sumL [2, 0, 0, 0, 1, 8, 5, 0, 2, 4, 5, 6, 7, 0, 13, 8, 10, 12, 13, 14, 15, 24, 21, 16, 18, 20, 21, 22, 23, 16, 29, 24, 26, 28, 29, 30, 31, 0, 0, 0, 0, 0, 253, 255, 255, 255, 1, 232, 3, 0, 0, 0, 0, 0, 0, 9, 1, 1, 0, 0, 0, 0, 0, 0, 0, 0, 0, 0, 0] = [100, 48, 169, 14, 113, 37, 252, 42, 16, 29, 148, 62, 228, 120, 249, 29, 244, 253, 172, 150, 145, 60, 215, 224, 243, 85, 114, 240, 145, 243, 61, 179] := by rw [sum_two (by decide +kernel : (padL _).length / 64 = 2)]; decide +kernel
theorem sumA2 : sumL [100, 48, 169, 14, 113, 37, 252, 42, 16, 29, 148, 62, 228, 120, 249, 29, 244, 253, 172, 150, 145, 60, 215, 224, 243, 85, 114, 240, 145, 243, 61, 179] = [25, 42, 22, 115, 193, 51, 64, 181, 222, 26, 82, 10, 253, 151, 117, 98, 228, 107, 119, 5, 141, 58, 45, 0, 248, 199, 16, 181, 194, 251, 33, 230] := by rw [sum_one (by decide +kernel : (padL _).length / 64 = 1)]; decide +kernel
theorem twA : tw (encL tA false) = iA := by rw [tw_sum, encA, sumA1, sumA2]; rfl
theorem encB : encL tB false = [2, 0, 0, 0, 1, 25, 42, 22, 115, 193, 51, 64, 181, 222, 26, 82, 10, 253, 151, 117, 98, 228, 107, 119, 5, 141, 58, 45, 0, 248, 199, 16, 181, 194, 251, 33, 230, 0, 0, 0, 0, 0, 253, 255, 255, 255, 1, 232, 3, 0, 0, 0, 0, 0, 0, 9, 1, 1, 0, 0, 0, 0, 0, 0, 0, 0, 0, 0, 0] := by kernel_rfl
theorem sumB1 : sumL [2, 0, 0, 0, 1, 25, 42, 22, 115, 193, 51, 64, 181, 222, 26, 82, 10, 253, 151, 117, 98, 228, 107, 119, 5, 141, 58, 45, 0, 248, 199, 16, 181, 194, 251, 33, 230, 0, 0, 0, 0, 0, 253, 255, 255, 255, 1, 232, 3, 0, 0, 0, 0, 0, 0, 9, 1, 1, 0, 0, 0, 0, 0, 0, 0, 0, 0, 0, 0] = [51, 159, 114, 82, 131, 156, 90, 186, 113, 189, 201, 240, 142, 137, 205, 224, 5, 134, 100, 14, 53, 83, 186, 92, 255, 37, 12, 6, 70, 215, 28, 69] := by rw [sum_two (by decide +kernel : (padL _).length / 64 = 2)]; decide +kernel
theorem sumB2 : sumL [51, 159, 114, 82, 131, 156, 90, 186, 113, 189, 201, 240, 142, 137, 205, 224, 5, 134, 100, 14, 53, 83, 186, 92, 255, 37, 12, 6, 70, 215, 28, 69] = [13, 247, 109, 113, 171, 55, 144, 65, 50, 147, 238, 99, 235, 84, 133, 112, 51, 187, 23, 136, 42, 154, 237, 72, 204, 83, 214, 84, 59, 24, 33, 79] := by rw [sum_one (by decide +kernel : (padL _).length / 64 = 1)]; decide +kernel
theorem twB : tw (encL tB false) = iB := by rw [tw_sum, encB, sumB1, sumB2]; rfl
theorem encC : encL tC false = [2, 0, 0, 0, 1, 9, 5, 0, 2, 4, 5, 6, 7, 1, 13, 8, 10, 12, 13, 14, 15, 25, 21, 16, 18, 20, 21, 22, 23, 17, 29, 24, 26, 28, 29, 30, 31, 0, 0, 0, 0, 0, 253, 255, 255, 255, 1, 232, 3, 0, 0, 0, 0, 0, 0, 9, 1, 1, 0, 0, 0, 0, 0, 0, 0, 0, 0, 0, 0] := by kernel_rfl
theorem sumC1 : sumL [2, 0, 0, 0, 1, 9, 5, 0, 2, 4, 5, 6, 7, 1, 13, 8, 10, 12, 13, 14, 15, 25, 21, 16, 18, 20, 21, 22, 23, 17, 29, 24, 26, 28, 29, 30, 31, 0, 0, 0, 0, 0, 253, 255, 255, 255, 1, 232, 3, 0, 0, 0, 0, 0, 0, 9, 1, 1, 0, 0, 0, 0, 0, 0, 0, 0, 0, 0, 0] = [124, 173, 91, 234, 154, 31, 53, 188, 178, 15, 248, 87, 143, 57, 154, 68, 228, 101, 246, 168, 60, 59, 78, 148, 255, 100, 16, 160, 163, 171, 93, 22] := by rw [sum_two (by decide +kernel : (padL _).length / 64 = 2)]; decide +kernel
theorem sumC2 : sumL [124, 173, 91, 234, 154, 31, 53, 188, 178, 15, 248, 87, 143, 57, 154, 68, 228, 101, 246, 168, 60, 59, 78, 148, 255, 100, 16, 160, 163, 171, 93, 22] = [224, 231, 132, 22, 155, 147, 84, 141, 189, 81, 171, 96, 167, 26, 13, 249, 123, 4, 161, 235, 106, 182, 26, 208, 68, 46, 184, 58, 28, 38, 199, 133] := by rw [sum_one (by decide +kernel : (padL _).length / 64 = 1)]; decide +kernel
theorem twC : tw (encL tC false) = iC := by rw [tw_sum, encC, sumC1, sumC2]; rfl
def eA : PE := ⟨tA, iA, 0, 69⟩
def eB : PE := ⟨tB, iB, 400, 69⟩
def eC : PE := ⟨tC, iC, 500, 69⟩
def zA : PSm := ⟨[200], 0, 0, 0, 0, 0⟩
def zB : PSm := ⟨[0], 0, 0, 400, 0, 0⟩
def zC : PSm := ⟨[201], 0, 0, 500, 0, 0⟩
def wkL : List PE := [eA, eB, eC]
theorem lone_check {i : PIn} {o : POut} {t : PTx} (h : t.ins = [i]) (h1 : countsOf t = true) (h2 : longOf t = false) (h3 : formedOf t = true) (h4 : (sumOf t).2 = 0) : checkOf t = 0 := by
  rw [check_sum h1 h2 h3 (dup_no (by simp [ptsOf, h]))]
  exact h4
theorem checkA : checkOf tA = 0 := lone_check (o := ⟨0, scr9⟩) rfl (by decide +kernel) (by decide +kernel) (by decide +kernel) (by decide +kernel)
theorem checkB : checkOf tB = 0 := lone_check (o := ⟨0, scr9⟩) rfl (by decide +kernel) (by decide +kernel) (by decide +kernel) (by decide +kernel)
theorem checkC : checkOf tC = 0 := lone_check (o := ⟨0, scr9⟩) rfl (by decide +kernel) (by decide +kernel) (by decide +kernel) (by decide +kernel)
theorem addL_yes {l : List PE} {t : PTx} {fee : Int} {id : ByteArray} (hid : tw (encL t false) = id) (h1 : checkOf t = 0) (h2 : firstBase t = false) (h3 : goodA fee = true) (h4 : (l.any fun x => decide (x.id = id)) = false) (h5 : t.ins.any (spentL l) = false) :
    addL l t fee = l ++ [⟨t, id, fee, (weigh t + 3) / 4⟩] := by
  unfold addL newE
  rw [hid, h1, h2, h3, h4, h5]
  simp
theorem wkMakeA : makeT [] (normZ zA) = tA := by kernel_rfl
theorem wkMakeB : makeT [eA] (normZ zB) = tB := by kernel_rfl
theorem wkMakeC : makeT [eA, eB] (normZ zC) = tC := by kernel_rfl
theorem wghA : (weigh tA + 3) / 4 = 69 := by unfold weigh; rw [show witOf tA = false by decide, encA]; rfl
theorem wghB : (weigh tB + 3) / 4 = 69 := by unfold weigh; rw [show witOf tB = false by decide, encB]; rfl
theorem wghC : (weigh tC + 3) / 4 = 69 := by unfold weigh; rw [show witOf tC = false by decide, encC]; rfl
theorem listL_wk : listL [zA, zB, zC] = wkL := by
  show listS (listS (listS [] zA) zB) zC = wkL
  have a : listS [] zA = [eA] := by
    unfold listS
    rw [wkMakeA, addL_yes twA checkA (by decide +kernel) (by decide +kernel) (by decide +kernel) (by decide +kernel), wghA]
    kernel_rfl
  have b : listS [eA] zB = [eA, eB] := by
    unfold listS
    rw [wkMakeB, addL_yes twB checkB (by decide +kernel) (by decide +kernel) (by decide +kernel) (by decide +kernel), wghB]
    kernel_rfl
  have c : listS [eA, eB] zC = wkL := by
    unfold listS
    rw [wkMakeC, addL_yes twC checkC (by decide +kernel) (by decide +kernel) (by decide +kernel) (by decide +kernel), wghC]
    kernel_rfl
  rw [a, b, c]

/-! ### what is taken of the three -/
theorem wk_len : wkL.length = 3 := rfl
theorem wk_edge : ∀ i, i < 3 → ∀ k, k < 3 → edge wkL i k = decide (i = 1 ∧ k = 0) := by decide +kernel
theorem wk_reach {a k : Nat} (h : Reach wkL a k) : k = a ∨ (a = 1 ∧ k = 0) := by
  refine reach_in (S := fun k => k = a ∨ (a = 1 ∧ k = 0)) (.inl rfl) (fun i k hi he => ?_) h
  have hl := edge_lt he
  rw [wk_len] at hl
  rw [wk_edge i hl.1 k hl.2, decide_eq_true_eq] at he
  omega
theorem wk_reachB (a k : Nat) (hk : k < 3) : reachB wkL a k = (decide (k = a) || decide (a = 1 ∧ k = 0)) := by
  rw [Bool.eq_iff_iff, reachB_iff, Bool.or_eq_true, decide_eq_true_eq, decide_eq_true_eq]
  constructor
  · exact wk_reach
  · rintro (rfl | ⟨rfl, rfl⟩)
    · exact .self
    · exact .step .self (by rw [wk_edge 1 (by decide) 0 (by decide)]; rfl)
def wkBund (a : Nat) (but : Nat → Bool) : List Nat := (List.range 3).filter fun k => (decide (k = a) || decide (a = 1 ∧ k = 0)) && !but k
theorem wk_bund (a : Nat) (but : Nat → Bool) : bundL wkL a but = wkBund a but := by
  unfold bundL wkBund
  rw [wk_len]
  refine List.filter_congr fun k hk => ?_
  rw [wk_reachB a k (List.mem_range.1 hk)]
def wkScore (taken : List Nat) (i : Nat) : Int × Int := feeL wkL (wkBund i fun k => taken.contains k)
theorem wk_score (taken : List Nat) : scoreOf wkL taken = wkScore taken := by
  funext i
  unfold scoreOf wkScore
  rw [wk_bund]
def wkStep (thr : Int) (s : TS) : Option TS :=
  match (bestL (wkScore s.taken) (skipOf s) 3).at_ with
  | none => none
  | some i => if lowB (bestL (wkScore s.taken) (skipOf s) 3).fee (bestL (wkScore s.taken) (skipOf s) 3).size thr = true then none
    else if badB s (bestL (wkScore s.taken) (skipOf s) 3).size (wkBund i fun k => s.taken.contains k) = true then some ⟨s.taken, s.passed ++ [i], s.most⟩
    else some ⟨s.taken ++ wkBund i (fun k => s.taken.contains k), s.passed, s.most - (bestL (wkScore s.taken) (skipOf s) 3).size⟩
theorem wk_step (thr : Int) (s : TS) : tStep wkL thr s = wkStep thr s := by
  unfold tStep wkStep bestOf someOf
  rw [wk_score, wk_len]
  simp only [wk_bund]
  rfl
theorem wk_two : tmplL wkL 2000 1000 = [2, 0, 1] := by
  unfold tmplL
  rw [tEnd_some (s' := ⟨[2], [], 931⟩) (by rw [wk_step]; kernel_rfl), tEnd_some (s' := ⟨[2, 0, 1], [], 793⟩) (by rw [wk_step]; kernel_rfl), tEnd_none (by rw [wk_step]; kernel_rfl)]
theorem wk_three : tmplL wkL 3000 1000 = [2] := by
  unfold tmplL
  rw [tEnd_some (s' := ⟨[2], [], 931⟩) (by rw [wk_step]; kernel_rfl), tEnd_none (by rw [wk_step]; kernel_rfl)]
theorem wk_one : scoreZ wkL [] 1 = (400, 138) := by
  unfold scoreZ
  rw [wk_bund]
  kernel_rfl
end Go.Proofs.Ytfkcldaogfengaa
end

section
/-
  What the document fixes of the miner: the walk. Conditions: none.
-/
namespace Go.Proofs.Ytfkcldaogfengaa
open Go.RowKit Go.BigFrame
set_option linter.unusedVariables false
set_option linter.unusedSimpArgs false

theorem new4 (w : World) (X : Nat) (hX : X = w.heap.size) (o1 o2 o3 o4 : Obj) : ((((w.alloc o1).alloc o2).alloc o3).alloc o4).heap[X]? = some o1 ∧ ((((w.alloc o1).alloc o2).alloc o3).alloc o4).heap[X + 1]? = some o2 ∧ ((((w.alloc o1).alloc o2).alloc o3).alloc o4).heap[X + 1 + 1]? = some o3 ∧ ((((w.alloc o1).alloc o2).alloc o3).alloc o4).heap[X + 1 + 1 + 1]? = some o4 ∧ Below w.heap.size w ((((w.alloc o1).alloc o2).alloc o3).alloc o4) := by
  obtain ⟨h1, h2, h3, h4⟩ := new3 w X hX o1 o2 o3
  subst hX
  have h5 := heap_alloc_new (((w.alloc o1).alloc o2).alloc o3) o4
  have hs : (((w.alloc o1).alloc o2).alloc o3).heap.size = w.heap.size + 1 + 1 + 1 := by simp
  have hb : Below (((w.alloc o1).alloc o2).alloc o3).heap.size (((w.alloc o1).alloc o2).alloc o3) ((((w.alloc o1).alloc o2).alloc o3).alloc o4) := (Below.refl _ _).alloc (Nat.le_refl _) o4
  rw [hs] at h5
  exact ⟨stay h1 hb, stay h2 hb, stay h3 hb, h5, h4.trans (hb.mono (by omega))⟩
theorem one_nat {w : World} {b n : Nat} (h : w.heap[b]? = some (.cells #[.int .u8 (n : Int)] 5 (0, 0))) (hn : n < 256) : NatsAt w (.slice (some ⟨b, 0, none⟩) 1 1) [n] := by
  refine ⟨_, _, rfl, Nat.le_refl _, by rw [maxLen_eq]; decide, fun i x hi => ?_⟩
  match i, hi with
  | 0, hi =>
    obtain rfl := Option.some.inj hi
    refine ⟨b, 0, [.int .u8 (n : Int)], rfl, rfl, fun j u hj => ?_, rfl, ?_⟩
    · rw [cell_at h]
      match j, hj with
      | 0, hj => exact hj
    · unfold natI
      simp [Lit.wf, IntKind.min, IntKind.max, IntKind.signed, IntKind.bits]
      omega
def wkCells (X : Nat) : Array Value := #[.slice (some ⟨X, 0, none⟩) 1 1, .int .u8 0, .int .u8 0, .int .i64 0, .int .u8 0, .int .u8 0, .slice (some ⟨X + 1, 0, none⟩) 1 1, .int .u8 0, .int .u8 0, .int .i64 400, .int .u8 0, .int .u8 0,
  .slice (some ⟨X + 1 + 1, 0, none⟩) 1 1, .int .u8 0, .int .u8 0, .int .i64 500, .int .u8 0, .int .u8 0]
theorem z_ok0 {z : PSm} (h : z = zA ∨ z = zB ∨ z = zC) : z.Ok0 := by
  rcases h with rfl | rfl | rfl
  · exact ⟨by decide, by decide, by decide, by decide, by decide, by decide⟩
  · exact ⟨by decide, by decide, by decide, by decide, by decide, by decide⟩
  · exact ⟨by decide, by decide, by decide, by decide, by decide, by decide⟩
theorem wk_sm {w : World} {X : Nat} (h0 : w.heap[X]? = some (.cells #[.int .u8 200] 5 (0, 0))) (h1 : w.heap[X + 1]? = some (.cells #[.int .u8 0] 5 (0, 0))) (h2 : w.heap[X + 1 + 1]? = some (.cells #[.int .u8 201] 5 (0, 0)))
    (h3 : w.heap[X + 1 + 1 + 1]? = some (.cells (wkCells X) 54 (0, 0))) : SlAt rpSm w (.slice (some ⟨X + 1 + 1 + 1, 0, none⟩) 3 3) [zA, zB, zC] := by
  have n0 : NatsAt w (.slice (some ⟨X, 0, none⟩) 1 1) [200] := one_nat h0 (by decide)
  have n1 : NatsAt w (.slice (some ⟨X + 1, 0, none⟩) 1 1) [0] := one_nat h1 (by decide)
  have n2 : NatsAt w (.slice (some ⟨X + 1 + 1, 0, none⟩) 1 1) [201] := one_nat h2 (by decide)
  refine ⟨_, _, rfl, Nat.le_refl _, by rw [maxLen_eq]; decide, fun i x hi => ?_⟩
  match i, hi with
  | 0, hi =>
    obtain rfl := Option.some.inj hi
    refine ⟨X + 1 + 1 + 1, 0, [.slice (some ⟨X, 0, none⟩) 1 1, .int .u8 0, .int .u8 0, .int .i64 0, .int .u8 0, .int .u8 0], rfl, rfl, fun j u hj => ?_, _, rfl, n0, z_ok0 (.inl rfl)⟩
    rw [cell_at h3]
    match j, hj with
    | 0, hj => exact hj
    | 1, hj => exact hj
    | 2, hj => exact hj
    | 3, hj => exact hj
    | 4, hj => exact hj
    | 5, hj => exact hj
  | 1, hi =>
    obtain rfl := Option.some.inj hi
    refine ⟨X + 1 + 1 + 1, 0, [.slice (some ⟨X + 1, 0, none⟩) 1 1, .int .u8 0, .int .u8 0, .int .i64 400, .int .u8 0, .int .u8 0], rfl, rfl, fun j u hj => ?_, _, rfl, n1, z_ok0 (.inr (.inl rfl))⟩
    rw [cell_at h3]
    match j, hj with
    | 0, hj => exact hj
    | 1, hj => exact hj
    | 2, hj => exact hj
    | 3, hj => exact hj
    | 4, hj => exact hj
    | 5, hj => exact hj
  | 2, hi =>
    obtain rfl := Option.some.inj hi
    refine ⟨X + 1 + 1 + 1, 0, [.slice (some ⟨X + 1 + 1, 0, none⟩) 1 1, .int .u8 0, .int .u8 0, .int .i64 500, .int .u8 0, .int .u8 0], rfl, rfl, fun j u hj => ?_, _, rfl, n2, z_ok0 (.inr (.inr rfl))⟩
    rw [cell_at h3]
    match j, hj with
    | 0, hj => exact hj
    | 1, hj => exact hj
    | 2, hj => exact hj
    | 3, hj => exact hj
    | 4, hj => exact hj
    | 5, hj => exact hj
theorem wk_listed : Listed wkL := listL_wk ▸ listL_listed fun z hz => z_ok0 (by simpa using hz)
theorem ints_nil (w : World) : IntsAt w (.slice none 0 0) [] := ⟨none, 0, rfl, Nat.le_refl _, Nat.zero_le _, fun i x hi => by simp at hi⟩
theorem wk_call1 {w : World} {sl : Value} (h : SlAt rpSm w sl [zA, zB, zC]) : Calls Try.prog 8 #[sl, .int .i64 3] w (ListP wkL w) := by
  have := listed21_any sl [zA, zB, zC] 3 w h (by decide)
  rw [show [zA, zB, zC].take 3 = [zA, zB, zC] from rfl, listL_wk] at this
  exact this
theorem wk_call2 {w : World} {sl : Value} (h : SlAt rpE w sl wkL) : Calls Try.prog 9 #[sl, .int .i64 1, .slice none 0 0] w (NN (400, 138) w) := by
  have := score_any sl (.slice none 0 0) wkL 1 [] w h (ints_nil w) (wk_listed.sized (by decide)) (by decide)
  rw [wk_one] at this
  exact this
theorem wk_call3 {w : World} {sl : Value} (h : SlAt rpE w sl wkL) : Calls Try.prog 13 #[sl, .int .i64 2000, .int .i64 1000] w (TmplP wkL [2, 0, 1] w) := by
  have := template_any sl wkL 2000 1000 w h (wk_listed.sized (by decide)) wk_listed.few (by decide) (by decide)
  rw [wk_two] at this
  exact this
theorem wk_call4 {w : World} {sl : Value} (h : SlAt rpE w sl wkL) : Calls Try.prog 13 #[sl, .int .i64 3000, .int .i64 1000] w (TmplP wkL [2] w) := by
  have := template_any sl wkL 3000 1000 w h (wk_listed.sized (by decide)) wk_listed.few (by decide) (by decide)
  rw [wk_three] at this
  exact this
theorem wk_tx {w : World} {sl : Value} (h : SlAt rpTx w sl ([2, 0, 1].map (txI wkL))) : ∃ (a : Option Addr) (c b o : Nat) (ib io c2 : Nat), sl = .slice a 3 c ∧ a = some ⟨b, o, none⟩ ∧ w.cell? ⟨b, o + 1, none⟩ = some (.slice (some ⟨ib, io, none⟩) 1 c2) ∧
    w.cell? ⟨ib, io, none⟩ = some (.string (idB 9)) ∧ w.cell? ⟨ib, io + 1, none⟩ = some (.int .u32 0) := by
  obtain ⟨a, c, rfl, -, -⟩ := h.shape
  obtain ⟨b, o, t, ia, ni, ic, oa, no, oc, rfl, ht, htx, -, d1, -, -⟩ := SlAt.txs (i := 0) (n := 3) h (by decide)
  obtain rfl : tC = t := Option.some.inj ht
  obtain ⟨va, vb, e, h1, h2, -, -⟩ := htx
  obtain ⟨rfl, rfl⟩ : Value.slice ia ni ic = va ∧ Value.slice oa no oc = vb := by simpa using e
  obtain ⟨a1, c1, e1, -, -⟩ := h1.shape
  cases e1
  obtain ⟨ib, io, x, wv, rfl, hx, -, -, -, -, f0, f1, -, -⟩ := SlAt.inp (i := 0) (n := 1) h1 (by decide)
  obtain rfl : (⟨idB 9, 0, 4294967293, []⟩ : PIn) = x := Option.some.inj hx
  rw [show o + 0 * 4 + 1 = o + 1 by omega] at d1
  rw [show io + 0 * 4 = io by omega] at f0
  rw [show io + 0 * 4 + 1 = io + 1 by omega] at f1
  exact ⟨_, c, b, o, ib, io, _, rfl, rfl, d1, f0, f1⟩
theorem wk_en {w : World} {sl : Value} (h : SlAt rpE w sl wkL) : ∃ (a : Option Addr) (c b o : Nat) (ib io c2 : Nat), sl = .slice a 3 c ∧ a = some ⟨b, o, none⟩ ∧ w.cell? ⟨b, o + 15, none⟩ = some (.slice (some ⟨ib, io, none⟩) 1 c2) ∧
    w.cell? ⟨ib, io, none⟩ = some (.string (idB 9)) ∧ w.cell? ⟨ib, io + 1, none⟩ = some (.int .u32 0) := by
  obtain ⟨a, c, rfl, -, -⟩ := h.shape
  obtain ⟨b, o, x, ia, ni, ic, oa, no, oc, rfl, hx, hxe, ⟨hn1, -⟩, -, d1, -, -, -, -, -⟩ := SlAt.ent (i := 2) (n := 3) h (by decide)
  obtain rfl : eC = x := Option.some.inj hx
  obtain rfl : ni = 1 := hn1
  obtain ⟨ib, io, y, wv, rfl, hy, -, -, -, -, f0, f1, -, -⟩ := SlAt.inp (i := 0) (n := 1) hxe.ins (by decide)
  obtain rfl : (⟨idB 9, 0, 4294967293, []⟩ : PIn) = y := Option.some.inj hy
  rw [show o + 2 * 7 + 1 = o + 15 by omega] at d1
  rw [show io + 0 * 4 = io by omega] at f0
  rw [show io + 0 * 4 + 1 = io + 1 by omega] at f1
  exact ⟨_, c, b, o, ib, io, _, rfl, rfl, d1, f0, f1⟩
set_option maxRecDepth 100000 in
set_option maxHeartbeats 4000000 in
theorem wakes21_any (w : World) : Calls Try.prog 12 #[] w (BIs true w) := by
  have hgp := guardPt
  have heq : ∀ w : World, (Op.equalIn 10000 63 (.agg #[.string (idB 9), .int .u32 0]) (.agg #[.string (idB 9), .int .u32 0])).run Try.prog w = .ok true w := fun w => by
    have h := eqIn_pt (idB 9, 0) (idB 9, 0) w
    rw [decide_eq_true rfl] at h
    exact h
  have HC1 := Lib.hid (fun (w : World) (sl : Value) (h : SlAt rpSm w sl [zA, zB, zC]) => wk_call1 h)
  have HC2 := Lib.hid (fun (w : World) (sl : Value) (h : SlAt rpE w sl wkL) => wk_call2 h)
  have HC3 := Lib.hid (fun (w : World) (sl : Value) (h : SlAt rpE w sl wkL) => wk_call3 h)
  have HC4 := Lib.hid (fun (w : World) (sl : Value) (h : SlAt rpE w sl wkL) => wk_call4 h)
  have HT := Lib.hid (fun (w : World) (sl : Value) (h : SlAt rpTx w sl ([2, 0, 1].map (txI wkL))) => wk_tx h)
  have HE := Lib.hid (fun (w : World) (sl : Value) (h : SlAt rpE w sl wkL) => wk_en h)
  have HU := Lib.hid (fun (w : World) (sl : Value) (h : SlAt rpTx w sl ([2].map (txI wkL))) => show ∃ a c, sl = .slice a 1 c by obtain ⟨a, c, rfl, -, -⟩ := h.shape; exact ⟨a, c, rfl⟩)
  generalize idB 9 = i9 at *
  generalize wkL = L at *
  go_enter Try.func12, Try.ntmps12
  go_wp2_with fail
  have h4 := new4 w w.heap.size rfl (.cells #[.int .u8 200] 5) (.cells #[.int .u8 0] 5) (.cells #[.int .u8 201] 5) (.cells #[.slice (some ⟨w.heap.size, 0, none⟩) 1 1, .int .u8 0, .int .u8 0, .int .i64 0, .int .u8 0, .int .u8 0, .slice (some ⟨w.heap.size + 1, 0, none⟩) 1 1, .int .u8 0, .int .u8 0, .int .i64 400, .int .u8 0, .int .u8 0, .slice (some ⟨w.heap.size + 1 + 1, 0, none⟩) 1 1, .int .u8 0, .int .u8 0, .int .i64 500, .int .u8 0, .int .u8 0] 54)
  obtain ⟨X, hX⟩ : ∃ X, X = w.heap.size := ⟨_, rfl⟩
  rw [← hX] at h4 ⊢
  generalize (((w.alloc (.cells #[.int .u8 200] 5)).alloc (.cells #[.int .u8 0] 5)).alloc (.cells #[.int .u8 201] 5)).alloc (.cells #[.slice (some ⟨X, 0, none⟩) 1 1, .int .u8 0, .int .u8 0, .int .i64 0, .int .u8 0, .int .u8 0, .slice (some ⟨X + 1, 0, none⟩) 1 1, .int .u8 0, .int .u8 0, .int .i64 400, .int .u8 0, .int .u8 0, .slice (some ⟨X + 1 + 1, 0, none⟩) 1 1, .int .u8 0, .int .u8 0, .int .i64 500, .int .u8 0, .int .u8 0] 54) = w1 at *
  obtain ⟨hz0, hz1, hz2, hz3, hal⟩ := h4
  have HSM := Lib.hid (wk_sm hz0 hz1 hz2 hz3)
  have HB1 := Lib.hid (show Below w.heap.size w w1 from hX ▸ hal)
  clear hz0 hz1 hz2 hz3 hal hX
  refine (HC1.out w1 _ HSM.out).mono ?_
  rintro e w2 ⟨v, rfl, hsl, hb⟩
  obtain ⟨ea, ec, eb, eo, ib, io, c2, rfl, rfl, d15, f0, f1⟩ := HE.out w2 v hsl
  have HS2 := Lib.hid hsl
  have HB2 := Lib.hid (HB1.out.trans (hb.mono HB1.out.size))
  clear hsl hb HSM HB1 HC1 HE
  go_wp2_with fail
  refine (HC2.out w2 _ HS2.out).mono ?_
  rintro e w3 ⟨rfl, hb⟩
  have HS3 := Lib.hid (HS2.out.below hb)
  have HB3 := Lib.hid (HB2.out.trans (hb.mono HB2.out.size))
  replace d15 := below_cells hb _ _ d15
  replace f0 := below_cells hb _ _ f0
  replace f1 := below_cells hb _ _ f1
  clear hb HS2 HB2 HC2
  go_wp2_with fail
  refine (HC3.out w3 _ HS3.out).mono ?_
  rintro e w4 ⟨v, rfl, htx, hb⟩
  obtain ⟨ta, tc, tb, to_, ib2, io2, c3, rfl, rfl, t1, g0, g1⟩ := HT.out w4 v htx
  have HS4 := Lib.hid (HS3.out.below hb)
  have HB4 := Lib.hid (HB3.out.trans (hb.mono HB3.out.size))
  replace d15 := below_cells hb _ _ d15
  replace f0 := below_cells hb _ _ f0
  replace f1 := below_cells hb _ _ f1
  clear hb htx HS3 HB3 HC3 HT
  go_wp2_with fail
  refine (HC4.out w4 _ HS4.out).mono ?_
  rintro e w5 ⟨v, rfl, htx, hb⟩
  obtain ⟨ua, uc, rfl⟩ := HU.out w5 v htx
  have HB5 := Lib.hid (HB4.out.trans (hb.mono HB4.out.size))
  replace d15 := below_cells hb _ _ d15
  replace f0 := below_cells hb _ _ f0
  replace f1 := below_cells hb _ _ f1
  replace t1 := below_cells hb _ _ t1
  replace g0 := below_cells hb _ _ g0
  replace g1 := below_cells hb _ _ g1
  clear hb htx HS4 HB4 HC4 HU
  go_wp2_with fail
  go_region
  all_goals
    go_wp2_with fail
    go_ret
    exact ⟨rfl, HB5.out.trans ⟨rfl, rfl, rfl, Nat.le_refl _, fun _ _ => rfl⟩⟩
end Go.Proofs.Ytfkcldaogfengaa
end

section
/-
  The document's Compare, Below, Sum of entries. Conditions: none beyond each theorem's own.
-/
namespace Go.Proofs.Ytfkcldaogfengaa
open Go.RowKit Go.BigFrame
set_option linter.unusedVariables false
set_option linter.unusedSimpArgs false

theorem nat_tdiv (a k : Nat) : ((a : Int)).tdiv (k : Int) = ((a / k : Nat) : Int) := by rw [Int.tdiv_eq_ediv_of_nonneg (by omega)]; rfl
theorem nat_tmod (a k : Nat) : ((a : Int)).tmod (k : Int) = ((a % k : Nat) : Int) := by rw [Int.tmod_eq_emod_of_nonneg (by omega)]; rfl
set_option maxRecDepth 100000 in
set_option maxHeartbeats 1000000 in
theorem rparts_any (a b : Nat) (ha : a ≤ 2100000000000000) (hb : b ≤ 1000000) (w : World) : Calls Try.prog 31 #[.int .i64 (a : Int), .int .i64 (b : Int)] w fun e w' => e = .returned (.tuple #[.int .i64 ((a * b / 1000000 : Nat) : Int), .int .i64 ((a * b % 1000000 : Nat) : Int)]) ∧ w = w' := by
  obtain ⟨x, hx⟩ : ∃ x, x = a / 1000000 := ⟨_, rfl⟩
  obtain ⟨y, hy⟩ : ∃ y, y = a % 1000000 := ⟨_, rfl⟩
  obtain ⟨z, hz⟩ : ∃ z, z = y * b := ⟨_, rfl⟩
  obtain ⟨u, hu⟩ : ∃ u, u = x * b := ⟨_, rfl⟩
  have hyl : y < 1000000 := by omega
  have hxl : x ≤ 2100000000 := by omega
  have hzl : z ≤ 1000000000000 := by rw [hz]; exact Nat.le_trans (Nat.mul_le_mul (Nat.le_of_lt hyl) hb) (by omega)
  have hul : u ≤ 2100000000000000 := by rw [hu]; exact Nat.le_trans (Nat.mul_le_mul hxl hb) (by omega)
  have hab : a * b = 1000000 * u + z := by
    have : a = 1000000 * x + y := by omega
    rw [this, Nat.add_mul, hz, hu, Nat.mul_assoc]
  have e1 : (a : Int).tdiv 1000000 = (x : Int) := by rw [hx]; exact nat_tdiv a 1000000
  have e1' : (a : Int) / 1000000 = (x : Int) := by omega
  have e2 : (a : Int).tmod 1000000 = (y : Int) := by rw [hy]; exact nat_tmod a 1000000
  have e2' : (a : Int) % 1000000 = (y : Int) := by omega
  have e3 : (y : Int) * (b : Int) = (z : Int) := by rw [hz]; simp
  have e4 : (x : Int) * (b : Int) = (u : Int) := by rw [hu]; simp
  obtain ⟨zq, hzq⟩ : ∃ q, q = z / 1000000 := ⟨_, rfl⟩
  obtain ⟨zr, hzr⟩ : ∃ q, q = z % 1000000 := ⟨_, rfl⟩
  have e5 : (z : Int).tdiv 1000000 = (zq : Int) := by rw [hzq]; exact nat_tdiv z 1000000
  have e5' : (z : Int) / 1000000 = (zq : Int) := by omega
  have e6 : (z : Int).tmod 1000000 = (zr : Int) := by rw [hzr]; exact nat_tmod z 1000000
  have e6' : (z : Int) % 1000000 = (zr : Int) := by omega
  have hzql : zq ≤ 1000000 := by omega
  have w1 : IntKind.i64.wrap (z : Int) = (z : Int) := by rw [IntKind.wrap_i64]; omega
  have w2 : IntKind.i64.wrap (u : Int) = (u : Int) := by rw [IntKind.wrap_i64]; omega
  have w3 : IntKind.i64.wrap ((u : Int) + (zq : Int)) = (u : Int) + (zq : Int) := by rw [IntKind.wrap_i64]; omega
  have R1 : ((a * b / 1000000 : Nat) : Int) = (u : Int) + (zq : Int) := by rw [hab]; omega
  have R2 : ((a * b % 1000000 : Nat) : Int) = (zr : Int) := by rw [hab]; omega
  rw [R1, R2]
  clear hx hy hz hu hzq hzr hab R1 R2
  go_enter Try.func31, Try.ntmps31
  go_wp2_with fail
  go_ret2
  exact ⟨rfl, rfl⟩
theorem cmpN_parts (p q : Nat) : cmpN p q = if p / 1000000 < q / 1000000 ∨ (p / 1000000 = q / 1000000 ∧ p % 1000000 < q % 1000000) then -1 else if q / 1000000 < p / 1000000 ∨ q % 1000000 < p % 1000000 then 1 else 0 := by
  unfold cmpN
  split
  · rw [if_pos (by omega)]
  · split
    · rw [if_neg (by omega), if_pos (by omega)]
    · rw [if_neg (by omega), if_neg (by omega)]
set_option maxRecDepth 100000 in
set_option maxHeartbeats 2000000 in
theorem rcompare_any (f s o i : Int) (w : World) : Calls Try.prog 20 #[.int .i64 f, .int .i64 s, .int .i64 o, .int .i64 i] w (fun e w' => e = .returned (.int .i64 (cmpR f s o i)) ∧ w = w') := by
  obtain ⟨x, hx⟩ : ∃ x, x = goodA f := ⟨_, rfl⟩
  obtain ⟨y, hy⟩ : ∃ y, y = goodA o := ⟨_, rfl⟩
  have HX := Lib.hid (hx ▸ rgood_any f w)
  have HY := Lib.hid (hy ▸ rgood_any o w)
  obtain ⟨r, hr⟩ : ∃ r, r = cmpR f s o i := ⟨_, rfl⟩
  rw [← hr]
  have HR := Lib.hid hr
  have HXE := Lib.hid hx
  have HYE := Lib.hid hy
  clear hr hx hy
  by_cases hbad : x = false ∨ y = false ∨ s < 1 ∨ i < 1 ∨ 1000000 < s ∨ 1000000 < i
  · have HZ := Lib.hid (show r = 0 by
      rw [HR.out]
      refine cmpR_bad ?_
      unfold pricedB
      rw [← HXE.out, ← HYE.out]
      rcases hbad with h | h | h | h | h | h
      · rw [h]; exact .inl rfl
      · rw [h]; exact .inr rfl
      · exact .inl (by simp; intro _ h1; omega)
      · exact .inr (by simp; intro _ h1; omega)
      · exact .inl (by simp; intro _ h1; omega)
      · exact .inr (by simp; intro _ h1; omega))
    go_enter Try.func20, Try.ntmps20
    go_wp2_with fail
    refine HX.out.mono ?_
    rintro e w1 ⟨rfl, rfl⟩
    go_wp2_with fail
    refine HY.out.mono ?_
    rintro e w1 ⟨rfl, rfl⟩
    go_upto_region 3 with fail
    go_cut [40] (fun v wx => v = .bool true ∧ wx = w)
    case first =>
      cases x
      · go_wp2_with fail
        go_meet
        exact ⟨rfl, rfl⟩
      cases y
      · go_wp2_with fail
        go_meet
        exact ⟨rfl, rfl⟩
      by_cases h1 : s < 1
      · go_wp2_with fail
        go_meet
        exact ⟨rfl, rfl⟩
      by_cases h2 : i < 1
      · go_wp2_with fail
        go_meet
        exact ⟨rfl, rfl⟩
      by_cases h3 : 1000000 < s
      · go_wp2_with fail
        go_meet
        exact ⟨rfl, rfl⟩
      by_cases h4 : 1000000 < i
      · go_wp2_with fail
        go_meet
        exact ⟨rfl, rfl⟩
      · exact absurd hbad (by simp; omega)
    case rest =>
      obtain ⟨rfl, rfl⟩ := hcut
      clear hbad
      go_wp2_with fail
      go_ret
      exact ⟨by rw [HZ.out] <;> rfl, rfl⟩
  · have hx : x = true := by cases x; exact absurd (.inl rfl) hbad; rfl
    have hy : y = true := by cases y; exact absurd (.inr (.inl rfl)) hbad; rfl
    subst hx
    subst hy
    have s1 : ¬ s < 1 := fun h => hbad (.inr (.inr (.inl h)))
    have i1 : ¬ i < 1 := fun h => hbad (.inr (.inr (.inr (.inl h))))
    have s2 : ¬ 1000000 < s := fun h => hbad (.inr (.inr (.inr (.inr (.inl h)))))
    have i2 : ¬ 1000000 < i := fun h => hbad (.inr (.inr (.inr (.inr (.inr h)))))
    have hf := HXE.out.symm
    have ho := HYE.out.symm
    have p1 : pricedB f s = true := by unfold pricedB; rw [hf]; simp; omega
    have p2 : pricedB o i = true := by unfold pricedB; rw [ho]; simp; omega
    obtain ⟨⟨f1, f2⟩, -⟩ := (priced_iff f s).1 p1
    obtain ⟨⟨o1, o2⟩, -⟩ := (priced_iff o i).1 p2
    have hre := HR.out
    rw [cmpR_yes p1 p2] at hre
    obtain ⟨fn, rfl⟩ : ∃ n : Nat, f = n := ⟨f.toNat, by omega⟩
    obtain ⟨on, rfl⟩ : ∃ n : Nat, o = n := ⟨o.toNat, by omega⟩
    obtain ⟨sn, rfl⟩ : ∃ n : Nat, s = n := ⟨s.toNat, by omega⟩
    obtain ⟨i_, rfl⟩ : ∃ n : Nat, i = n := ⟨i.toNat, by omega⟩
    rw [show ((fn : Int) * (i_ : Int)).toNat = fn * i_ by rw [← Int.natCast_mul]; rfl, show ((on : Int) * (sn : Int)).toNat = on * sn by rw [← Int.natCast_mul]; rfl, cmpN_parts] at hre
    have HP1 := Lib.hid (rparts_any fn i_ (by omega) (by omega) w)
    have HP2 := Lib.hid (rparts_any on sn (by omega) (by omega) w)
    generalize fn * i_ / 1000000 = pa at *
    generalize fn * i_ % 1000000 = pb at *
    generalize on * sn / 1000000 = pc at *
    generalize on * sn % 1000000 = pd at *
    have HRE := Lib.hid hre
    clear hre p1 p2 hf ho hbad HR HXE HYE
    go_enter Try.func20, Try.ntmps20
    go_wp2_with fail
    refine HX.out.mono ?_
    rintro e w1 ⟨rfl, rfl⟩
    go_wp2_with fail
    refine HY.out.mono ?_
    rintro e w1 ⟨rfl, rfl⟩
    go_wp2_with fail
    refine HP1.out.mono ?_
    rintro e w1 ⟨rfl, rfl⟩
    go_wp2_with fail
    refine HP2.out.mono ?_
    rintro e w1 ⟨rfl, rfl⟩
    clear HX HY HP1 HP2
    by_cases h1 : pa < pc
    · have HE := Lib.hid (HRE.out.trans (if_pos (.inl h1)))
      have h1' : (pa : Int) < (pc : Int) := by omega
      go_wp2_with fail
      go_ret
      exact ⟨by rw [HE.out] <;> rfl, rfl⟩
    have h1' : ¬ ((pa : Int) < (pc : Int)) := by omega
    by_cases h2 : pa = pc
    · subst h2
      have h2' : ((pa : Int) == (pa : Int)) = true := by simp
      by_cases h3 : pb < pd
      · have HE := Lib.hid (HRE.out.trans (if_pos (.inr ⟨rfl, h3⟩)))
        have h3' : (pb : Int) < (pd : Int) := by omega
        go_wp2_with fail
        go_ret
        exact ⟨by rw [HE.out] <;> rfl, rfl⟩
      · have h3' : ¬ ((pb : Int) < (pd : Int)) := by omega
        have HE := Lib.hid (HRE.out.trans (if_neg (by omega)))
        by_cases h4 : pd < pb
        · have HE := Lib.hid (HE.out.trans (if_pos (.inr h4)))
          have h4' : (pd : Int) < (pb : Int) := by omega
          go_wp2_with fail
          go_ret
          exact ⟨by rw [HE.out] <;> rfl, rfl⟩
        · have HE := Lib.hid (HE.out.trans (if_neg (by omega)))
          have h4' : ¬ ((pd : Int) < (pb : Int)) := by omega
          go_wp2_with fail
          go_ret
          exact ⟨by rw [HE.out] <;> rfl, rfl⟩
    · have h2' : ((pa : Int) == (pc : Int)) = false := by rw [beq_eq_false_iff_ne]; omega
      have HE := Lib.hid (HRE.out.trans (if_neg (by omega)))
      have HE := Lib.hid (HE.out.trans (if_pos (.inl (by omega))))
      have h3' : (pc : Int) < (pa : Int) := by omega
      go_wp2_with fail
      go_ret
      exact ⟨by rw [HE.out] <;> rfl, rfl⟩
theorem below21_any (f s thr : Int) (w : World) : Calls Try.prog 17 #[.int .i64 f, .int .i64 s, .int .i64 thr] w (fun e w' => e = .returned (.bool (lowB f s thr)) ∧ w = w') := by
  by_cases h0 : thr ≤ 0
  · have HF := Lib.hid (show lowB f s thr = false by unfold lowB; rw [decide_eq_false (by omega)]; rfl)
    go_enter Try.func17, Try.ntmps17
    go_wp2_with fail
    go_ret
    exact ⟨ret_bool HF.out.symm, rfl⟩
  · obtain ⟨m, hm⟩ : ∃ m, m = min thr 2100000000000000 := ⟨_, rfl⟩
    have HF := Lib.hid (show lowB f s thr = decide (cmpR f s m 1000 < 0) by unfold lowB; rw [decide_eq_true (by omega), hm]; rfl)
    have HC := Lib.hid (rcompare_any f s m 1000 w)
    by_cases h1 : 2100000000000000 < thr
    · obtain rfl : m = 2100000000000000 := by omega
      clear hm
      go_enter Try.func17, Try.ntmps17
      go_wp2_with fail
      refine HC.out.mono ?_
      rintro e w1 ⟨rfl, rfl⟩
      go_wp2_with fail
      go_ret
      exact ⟨ret_bool HF.out.symm, rfl⟩
    · obtain rfl : m = thr := by omega
      clear hm
      go_enter Try.func17, Try.ntmps17
      go_wp2_with fail
      refine HC.out.mono ?_
      rintro e w1 ⟨rfl, rfl⟩
      go_wp2_with fail
      go_ret
      exact ⟨ret_bool HF.out.symm, rfl⟩
/-! ### the sum of those that are in -/
def insOf (bs : List Bool) (n : Nat) : List Nat := (List.range n).filter fun i => bs.getD i false
theorem insOf_succ (bs : List Bool) (n : Nat) : insOf bs (n + 1) = insOf bs n ++ if bs.getD n false = true then [n] else [] := by
  unfold insOf
  rw [List.range_succ, List.filter_append]
  congr 1
  simp only [List.filter_cons, List.filter_nil]
theorem insOf_lt {bs : List Bool} {n i : Nat} (h : i ∈ insOf bs n) : i < n := List.mem_range.1 (List.mem_filter.1 h).1
theorem insOf_len (bs : List Bool) (n : Nat) : (insOf bs n).length ≤ n := by
  have := List.length_filter_le (fun i => bs.getD i false) (List.range n)
  rwa [List.length_range] at this
theorem SlAt.bool {w : World} {a : Option Addr} {n c i : Nat} {xs : List Bool} (h : SlAt rpBool w (.slice a n c) xs) (hi : i < n) : ∃ (b o : Nat) (x : Bool), a = some ⟨b, o, none⟩ ∧ xs[i]? = some x ∧ w.cell? ⟨b, o + i, none⟩ = some (.bool x) := by
  obtain ⟨b, o, x, cs, h1, h2, h3, h4, h5⟩ := SlAt.at h hi
  subst h5
  refine ⟨b, o, x, h1, h2, ?_⟩
  have := h4 0 _ rfl
  simpa [rpBool] using this
set_option maxRecDepth 100000 in
set_option maxHeartbeats 2000000 in
theorem sum14_any (sl bv : Value) (l : List PE) (bs : List Bool) (w : World) (hsl : SlAt rpE w sl l) (hbv : SlAt rpBool w bv bs) (hz : Sized l) (hlen : bs.length = l.length) : Calls Try.prog 10 #[sl, bv] w (NN (feeL l (insOf bs l.length)) w) := by
  have HSL := Lib.hid hsl
  have HBV := Lib.hid hbv
  obtain ⟨a, c, rfl, hl1, hl2⟩ := hsl.shape
  obtain ⟨a', c', rfl, hq1, hq2⟩ := hbv.shape
  rw [maxLen_eq] at hl2 hq2
  have HBD := Lib.hid (fun k (hk : k ≤ l.length) => feeL_bd hz (ps := insOf bs k) fun i hi => Nat.lt_of_lt_of_le (insOf_lt hi) hk)
  have HZ := Lib.hid hz
  have hz12 := hz.len
  obtain ⟨n, hn⟩ : ∃ n, n = l.length := ⟨_, rfl⟩
  rw [← hn] at hl1 HSL hlen HBD hz12 ⊢
  rw [hlen] at hq1 HBV ⊢
  have HLEN := Lib.hid hlen
  have HN := Lib.hid hn
  clear hsl hbv hz hlen hn
  go_enter Try.func10, Try.ntmps10
  go_wp2_with fail
  go_loopg [6, 7, 8] n (fun g f s i wr => ∃ k : Nat, g = n - k ∧ k ≤ n ∧ i = .int .i64 k ∧ f = .int .i64 (feeL l (insOf bs k)).1 ∧ s = .int .i64 (feeL l (insOf bs k)).2 ∧ w = wr)
  case atStart => exact ⟨0, rfl, Nat.zero_le _, rfl, rfl, rfl, rfl⟩
  case round =>
    obtain ⟨k, hgk, hk, rfl, rfl, rfl, rfl⟩ := hrel
    have HGK := Lib.hid hgk
    obtain ⟨sf, hsf⟩ : ∃ sf, sf = (feeL l (insOf bs k)).1 := ⟨_, rfl⟩
    obtain ⟨ss, hss⟩ : ∃ ss, ss = (feeL l (insOf bs k)).2 := ⟨_, rfl⟩
    have hbd := HBD.out k hk
    have hle := insOf_len bs k
    rw [← hsf, ← hss] at hbd ⊢
    have HSF := Lib.hid hsf
    have HSS := Lib.hid hss
    have b1 : 0 ≤ sf := hbd.1
    have b2 : sf ≤ 51539607540 := by omega
    have b3 : 0 ≤ ss := by omega
    have b4 : ss ≤ 24000 := by omega
    clear hbd hle hsf hss hgk
    by_cases hlt : k < n
    · obtain ⟨vb, vo, y, rfl, hy, d0⟩ := HBV.out.bool hlt
      obtain ⟨sb, so, x, ia, ni, ic, oa, no, oc, rfl, hx, -, -, -, -, -, -, -, e5, e6⟩ := HSL.out.ent hlt
      have hxm := List.mem_of_getElem? hx
      have f1 := HZ.out.fee x hxm
      have f2 := HZ.out.size x hxm
      have hgd : bs.getD k false = y := by rw [List.getD_eq_getElem?_getD, hy]; rfl
      have HNX := Lib.hid (insOf_succ bs k)
      have HGD := Lib.hid hgd
      have HX := Lib.hid hx
      clear hxm hx hy hgd
      cases y
      · have HS := Lib.hid (show feeL l (insOf bs (k + 1)) = feeL l (insOf bs k) by rw [HNX.out, HGD.out, if_neg (by decide), List.append_nil])
        go_wp2_with fail
        go_roundg (n - (k + 1))
        case measure => have := HGK.out; omega
        case rel => exact ⟨k + 1, rfl, by omega, by go_num, by rw [HS.out, HSF.out], by rw [HS.out, HSS.out], rfl⟩
      · have HS := Lib.hid (show feeL l (insOf bs (k + 1)) = (sf + x.fee, ss + x.size) by rw [HNX.out, HGD.out, if_pos rfl, feeL_app, feeL_one HX.out, HSF.out, HSS.out])
        have E1 : IntKind.i64.wrap (sf + x.fee) = sf + x.fee := by rw [IntKind.wrap_i64]; omega
        have E2 : IntKind.i64.wrap (ss + x.size) = ss + x.size := by rw [IntKind.wrap_i64]; omega
        go_wp2_with fail
        go_roundg (n - (k + 1))
        case measure => have := HGK.out; omega
        case rel => exact ⟨k + 1, rfl, by omega, by go_num, by rw [HS.out], by rw [HS.out], rfl⟩
    · obtain rfl : k = n := by omega
      have HF := Lib.hid (show feeL l (insOf bs k) = (sf, ss) by rw [HSF.out, HSS.out])
      go_wp2_with fail
      go_ret2
      exact ⟨by rw [HF.out] <;> rfl, Below.refl _ _⟩
end Go.Proofs.Ytfkcldaogfengaa
end

section
/-
  The document's Bundle of an entry. Conditions: the entries lie in memory.
-/
namespace Go.Proofs.Ytfkcldaogfengaa
open Go.RowKit Go.BigFrame
set_option linter.unusedVariables false
set_option linter.unusedSimpArgs false

theorem info_bl : (Try.prog.info? 4).map (fun i => (i.zero, i.size, i.bytes)) = some (some (.bool false), 1, 1) := by kernel_rfl
/-- A row of Booleans of the call's own. -/
def BlRow (base : Nat) (w : World) (v : Value) (bs : List Bool) : Prop := w.ownsRow base 4 1 v bs.length (bs.map Value.bool)
theorem BlRow.sl {base : Nat} {w : World} {v : Value} {bs : List Bool} (h : BlRow base w v bs) : SlAt rpBool w v bs := by
  obtain ⟨a, c, e, h1, h2⟩ := ownsRow_shape h
  subst e
  refine ⟨a, c, rfl, h1, h2, fun i x hi => ?_⟩
  have hil : i < bs.length := (List.getElem?_eq_some_iff.1 hi).1
  obtain ⟨b, rfl, hb, hb2⟩ := ownsRow_some h (by omega)
  refine ⟨b, 0, [.bool x], rfl, rfl, fun j u hj => ?_, rfl⟩
  match j, hj with
  | 0, hj =>
    simp at hj
    subst hj
    have := h.cells (g := b) rfl i (.bool x) (by rw [List.getElem?_map, hi]; rfl)
    rw [Addr.add_lit] at this
    simpa [rpBool] using this
theorem BlRow.below {base : Nat} {w w' : World} {v : Value} {bs : List Bool} (h : BlRow base w v bs) (hb : Below w.heap.size w w') : BlRow base w' v bs := ownsRow_below h hb
theorem BlRow.get {base R n c : Nat} {w : World} {bs : List Bool} (h : BlRow base w (.slice (some ⟨R, 0, none⟩) n c) bs) {i : Nat} (hi : i < bs.length) : ∃ b, bs[i]? = some b ∧ w.cell? ⟨R, i, none⟩ = some (.bool b) := by
  refine ⟨bs[i], List.getElem?_eq_getElem hi, ?_⟩
  have := h.cells (g := R) rfl i (.bool bs[i]) (by rw [List.getElem?_map, List.getElem?_eq_getElem hi]; rfl)
  rwa [Addr.add_lit, Nat.zero_add] at this
theorem BlRow.put {base R n c : Nat} {w : World} {bs : List Bool} (h : BlRow base w (.slice (some ⟨R, 0, none⟩) n c) bs) {i : Nat} (hi : i < bs.length) (b : Bool) : BlRow base (w.setCell ⟨R, i, none⟩ (.bool b)) (.slice (some ⟨R, 0, none⟩) n c) (bs.set i b) := by
  have hn : n = bs.length := by
    obtain ⟨a', c', e, -, -⟩ := ownsRow_shape h
    injection e
  subst hn
  unfold BlRow
  rw [List.length_set, List.map_set]
  exact ownsRow_set h (by rw [List.length_map]; exact hi) _
theorem BlRow.free {base R n c : Nat} {w : World} {bs : List Bool} (h : BlRow base w (.slice (some ⟨R, 0, none⟩) n c) bs) (j : Nat) : w.frozen? ⟨R, j, none⟩ = false := ownsRow_free h j
theorem mk_bools (w : World) (n : Nat) (hn : n ≤ 1000) : ∃ w1, (Instr.makeSlice 26 (.int .i64 (n : Int)) (.int .i64 (n : Int))).run Try.prog w = .ok (.slice (some ⟨w.heap.size, 0, none⟩) n n) w1 ∧ BlRow w.heap.size w1 (.slice (some ⟨w.heap.size, 0, none⟩) n n) (List.replicate n false) ∧ Below w.heap.size w w1 := by
  obtain ⟨i0, hi, hz0, hz1, hz2⟩ := info_parts info_bl
  obtain ⟨w1, hmk, hown, hg⟩ := run_makeSlice_full (P := Try.prog) w w.heap.size 26 4 i0 _ 1 Try.underlying26 hi hz0 hz1 .i64 .i64 n (by omega) (by rw [hz2]; omega) (by rw [maxLen_eq]; omega) (Nat.le_refl _)
  refine ⟨w1, hmk, ?_, (Below.refl _ _).grown hg (Nat.le_refl _) (fun k h => by cases h)⟩
  unfold BlRow
  rw [List.length_replicate, List.map_replicate]
  have e : (madeCells #[.bool false] (n * 1)).toList = List.replicate n (.bool false) := by
    apply List.ext_getElem
    · simp [madeCells]
    · intro i h1 h2
      simp [madeCells, Nat.mod_one]
  have h2 : w1.ownsRow w.heap.size 4 1 (.slice (some ⟨w.heap.size, 0, none⟩) n n) n (madeCells #[.bool false] (n * 1)).toList := hown
  rw [e] at h2
  exact h2
structure BS (w : World) (n : Nat) (S : List Bool) (wr : World) : Prop where
  bel : Below w.heap.size w wr
  row : BlRow w.heap.size wr (.slice (some ⟨w.heap.size, 0, none⟩) n n) S
theorem BS.below {w wr w' : World} {n : Nat} {S : List Bool} (h : BS w n S wr) (hb : Below wr.heap.size wr w') : BS w n S w' := ⟨h.bel.trans (hb.mono h.bel.size), h.row.below hb⟩
theorem BS.put {w wr : World} {n : Nat} {S : List Bool} (h : BS w n S wr) {i : Nat} (hi : i < S.length) (b : Bool) : BS w n (S.set i b) (wr.setCell ⟨w.heap.size, i, none⟩ (.bool b)) := ⟨h.bel.setCell (Nat.le_refl _) _, h.row.put hi b⟩
/-- Those that are reached, but of the first i for those that are to be left out. -/
noncomputable def cutR (l : List PE) (a : Nat) (but : List Bool) (i : Nat) : List Bool := (List.range l.length).map fun k => reachB l a k && !(decide (k < i) && but.getD k false)
theorem cutR_len (l : List PE) (a : Nat) (but : List Bool) (i : Nat) : (cutR l a but i).length = l.length := by unfold cutR; rw [List.length_map, List.length_range]
theorem cutR_zero (l : List PE) (a : Nat) (but : List Bool) : cutR l a but 0 = (List.range l.length).map (reachB l a) := by
  unfold cutR
  refine List.map_congr_left fun k _ => ?_
  simp
theorem cutR_skip {l : List PE} {a i : Nat} {but : List Bool} (h : but.getD i false = false) : cutR l a but (i + 1) = cutR l a but i := by
  unfold cutR
  refine List.map_congr_left fun k _ => ?_
  by_cases e : k = i
  · subst e; rw [h]; simp
  · have : decide (k < i + 1) = decide (k < i) := by rw [decide_eq_decide]; omega
    rw [this]
theorem cutR_put {l : List PE} {a i : Nat} {but : List Bool} (h : but.getD i false = true) : cutR l a but (i + 1) = (cutR l a but i).set i false := by
  unfold cutR
  refine List.ext_getElem? fun k => ?_
  by_cases e : i = k
  · subst e
    by_cases hk : i < l.length
    · rw [List.getElem?_set_self (by simpa using hk), List.getElem?_map, List.getElem?_range hk]
      simp only [Option.map_some, h]
      simp
    · rw [List.getElem?_eq_none (by simp; omega), List.getElem?_eq_none (by simp; omega)]
  · rw [List.getElem?_set_ne e, List.getElem?_map, List.getElem?_map]
    cases hr : (List.range l.length)[k]? with
    | none => rfl
    | some q =>
      have hq : q = k := by
        have := List.getElem?_eq_some_iff.1 hr
        obtain ⟨h1, h2⟩ := this
        rw [List.getElem_range] at h2
        exact h2.symm
      subst hq
      simp only [Option.map_some]
      have : decide (q < i + 1) = decide (q < i) := by rw [decide_eq_decide]; omega
      rw [this]
theorem cutR_all {l : List PE} {a n : Nat} {but : List Bool} (h : n = l.length) : cutR l a but n = (List.range l.length).map fun k => reachB l a k && !(but.getD k false) := by
  unfold cutR
  refine List.map_congr_left fun k hk => ?_
  rw [decide_eq_true (by have := List.mem_range.1 hk; omega)]
  simp
def BdP (l : List PE) (a : Nat) (but : List Bool) (w : World) (e : Ending) (w' : World) : Prop := ∃ v, e = .returned v ∧ BlRow w.heap.size w' v ((List.range l.length).map fun k => reachB l a k && !(but.getD k false)) ∧ Below w.heap.size w w'
set_option maxRecDepth 100000 in
set_option maxHeartbeats 4000000 in
theorem bundle21_any (sl bv : Value) (l : List PE) (at_ : Nat) (but : List Bool) (w : World) (hsl : SlAt rpE w sl l) (hbv : SlAt rpBool w bv but) (hat : at_ < l.length) (hlen : l.length ≤ 1000) (hbl : but.length = l.length) :
    Calls Try.prog 11 #[sl, .int .i64 at_, bv] w (BdP l at_ but w) := by
  have HSL := Lib.hid hsl
  have HBV := Lib.hid hbv
  have HAT := Lib.hid hat
  have HBL := Lib.hid hbl
  obtain ⟨a, c, rfl, hl1, hl2⟩ := hsl.shape
  obtain ⟨a', c', rfl, hq1, hq2⟩ := hbv.shape
  rw [maxLen_eq] at hl2 hq2
  rw [hbl] at hq1 HBV ⊢
  obtain ⟨n, hn⟩ : ∃ n, n = l.length := ⟨_, rfl⟩
  rw [← hn] at hl1 HSL hat hlen hq1 HBV ⊢
  have HN := Lib.hid hn
  obtain ⟨w1, hmk, hrow, hb1⟩ := mk_bools w n hlen
  have hst := (show BS w n (List.replicate n false) w1 from ⟨hb1, hrow⟩).put (i := at_) (by simpa using hat) true
  have c0 : w1.cell? ⟨w.heap.size, at_, none⟩ = some (.bool false) := by
    obtain ⟨b, h1, h2⟩ := hrow.get (i := at_) (by simpa using hat)
    rw [List.getElem?_replicate, if_pos hat] at h1
    rw [h2, ← Option.some.inj h1]
  have f0 := hrow.free at_
  have HST := Lib.hid hst
  have HR0 := Lib.hid (show Rnd l at_ ((List.replicate n false).set at_ true) 0 by rw [hn]; exact Marks.start HAT.out)
  generalize (List.replicate n false).set at_ true = S0 at *
  clear hsl hbv hn hbl hrow hst hb1
  go_enter Try.func11, Try.ntmps11
  go_wp2_with fail
  generalize w1.setCell ⟨w.heap.size, at_, none⟩ (.bool true) = w2 at *
  clear hmk c0 f0
  go_loopg [8] (n + 1) (fun g i wr => ∃ (r : Nat) (S : List Bool), g = n + 1 - r ∧ r ≤ n + 1 ∧ i = .int .i64 r ∧ Rnd l at_ S r ∧ BS w n S wr)
  case atStart => exact ⟨0, S0, rfl, by omega, rfl, HR0.out, HST.out⟩
  case round =>
    clear HST HR0
    rename World => wo
    obtain ⟨r, S, hgr, hr, rfl, hrn, hst⟩ := hrel
    have HGR := Lib.hid hgr
    have HRN := Lib.hid hrn
    have HST := Lib.hid hst
    have HSLN := Lib.hid (show S.length = n by rw [hrn.1.len]; exact HN.out.symm)
    clear hgr hrn hst
    by_cases hrl : r < n + 1
    · have hrl' : (r : Int) ≤ (n : Int) := by omega
      go_wp2_with fail
      go_loopg [9] n (fun g i wr => ∃ (k : Nat) (T : List Bool), g = n - k ∧ k ≤ n ∧ i = .int .i64 k ∧ Mid l at_ S T k 0 ∧ BS w n T wr)
      case atStart => exact ⟨0, S, rfl, by omega, rfl, HRN.out.mid, HST.out⟩
      case round =>
        clear HST
        rename World => wp
        obtain ⟨i, T, hgi, hi, rfl, hmid, hst⟩ := hrel
        have HGI := Lib.hid hgi
        have HMID := Lib.hid hmid
        have HST := Lib.hid hst
        clear hgi hmid hst
        by_cases hin : i < n
        · go_wp2_with fail
          go_loopg [10] n (fun g j wr => ∃ (k : Nat) (T : List Bool), g = n - k ∧ k ≤ n ∧ j = .int .i64 k ∧ Mid l at_ S T i k ∧ BS w n T wr)
          case atStart => exact ⟨0, T, rfl, by omega, rfl, HMID.out, HST.out⟩
          case round =>
            clear HST HMID
            rename World => wq
            obtain ⟨k, U, hgk, hk, rfl, hmid, hst⟩ := hrel
            have HGK := Lib.hid hgk
            have HMID := Lib.hid hmid
            have HST := Lib.hid hst
            have hul : U.length = n := by rw [hmid.marks.len]; exact HN.out.symm
            have HUL := Lib.hid hul
            clear hgk hmid hst hul
            by_cases hkn : k < n
            · obtain ⟨sb, so, x, ia, ni, ic, oa, no, oc, rfl, hx, hxe, -, d0, d1, d2, d3, -, -, -⟩ := (HSL.out.below HST.out.bel).ent hkn
              obtain ⟨sb', so', y, ia', ni', ic', oa', no', oc', hsa, hy, hye, -, g0, g1, g2, g3, g4, g5, g6⟩ := (HSL.out.below HST.out.bel).ent hin
              obtain ⟨rfl, rfl⟩ : sb = sb' ∧ so = so' := by simpa using hsa
              obtain ⟨ed, hed⟩ : ∃ ed, ed = hangsB x.tx y := ⟨_, rfl⟩
              have HED := Lib.hid (show edge l k i = ed from (edge_at hx hy).trans hed.symm)
              have HHG := Lib.hid (show ∀ wy : World, Below wq.heap.size wq wy → Calls Try.prog 16 #[.agg #[.int .u32 x.tx.ver, .slice ia ni ic, .slice oa no oc, .int .u32 x.tx.lock], .agg #[.int .u32 y.tx.ver, .slice ia' ni' ic', .slice oa' no' oc', .int .u32 y.tx.lock, .string y.id, .int .i64 y.fee, .int .i64 y.size]] wy (fun e w' => e = .returned (.bool ed) ∧ Below wy.heap.size wy w') from fun wy h =>
                hed ▸ hangs14_any x.tx y _ _ _ wy (hxe.below h).tx (hye.below h))
              clear hx hy hxe hye hsa hed
              go_upto_region 12 with fail
              go_cut [11] (fun v wx => v = .bool ed ∧ Below wq.heap.size wq wx)
              case first =>
                obtain ⟨C, hC⟩ : ∃ C : World → Prop, C = fun w' => Below wq.heap.size wq w' := ⟨_, rfl⟩
                have kd0 := kin_cell hC d0
                have kd1 := kin_cell hC d1
                have kd2 := kin_cell hC d2
                have kd3 := kin_cell hC d3
                have kg0 := kin_cell hC g0
                have kg1 := kin_cell hC g1
                have kg2 := kin_cell hC g2
                have kg3 := kin_cell hC g3
                have kg4 := kin_cell hC g4
                have kg5 := kin_cell hC g5
                have kg6 := kin_cell hC g6
                have QNh := Lib.hid (kin_call hC fun y h => (HHG.out y h))
                have HC := Lib.hid hC
                clear hC
                refine wp_region_kin C (by kernel_rfl) (by kernel_rfl) (by rw [HC.out]; exact ⟨rfl, rfl, rfl, Nat.le_refl _, fun _ _ => rfl⟩) ?_
                intro hne
                repeat (first | (go_big_quiet_step ((rename_i y; go_at_call 16; exact Calls.kin (QNh.out y) (fun w' h => h)))) | (quiet_step ((rename_i y; go_at_call 16; exact Calls.kin (QNh.out y) (fun w' h => h)))))
                refine wpQuiet_nil ?_
                intro _ hw'
                obtain ⟨kx, hw''⟩ := hw'
                subst hw''
                obtain ⟨w3, hxc⟩ := kx
                rw [HC.out] at hxc
                clear HC hne kd0 kd1 kd2 kd3 kg0 kg1 kg2 kg3 kg4 kg5 kg6
                go_wp2_with fail
                go_meet
                exact ⟨rfl, hxc⟩
              case rest =>
                obtain ⟨rfl, hxc⟩ := hcut
                rename World => w3
                have HST3 := Lib.hid (HST.out.below hxc)
                clear hxc d0 d1 d2 d3 g0 g1 g2 g3 g4 g5 g6 HHG
                obtain ⟨ti, hti, t0⟩ := HST3.out.row.get (i := i) (by rw [HUL.out]; exact hin)
                obtain ⟨tk, htk, t1⟩ := HST3.out.row.get (i := k) (by rw [HUL.out]; exact hkn)
                have f1 := HST3.out.row.free i
                have hmid := HMID.out.step hti htk
                rw [HED.out] at hmid
                have hput := HST3.out.put (i := i) (by rw [HUL.out]; exact hin) (ti || (tk && ed))
                have HMID3 := Lib.hid hmid
                have HPUT := Lib.hid hput
                clear hti htk hmid hput
                cases ti
                · cases tk
                  · go_wp2_with fail
                    go_roundg (n - (k + 1))
                    case measure => have := HGK.out; omega
                    case rel => exact ⟨k + 1, _, rfl, by omega, by go_num, HMID3.out, HPUT.out⟩
                  · cases ed
                    · go_wp2_with fail
                      go_roundg (n - (k + 1))
                      case measure => have := HGK.out; omega
                      case rel => exact ⟨k + 1, _, rfl, by omega, by go_num, HMID3.out, HPUT.out⟩
                    · go_wp2_with fail
                      go_roundg (n - (k + 1))
                      case measure => have := HGK.out; omega
                      case rel => exact ⟨k + 1, _, rfl, by omega, by go_num, HMID3.out, HPUT.out⟩
                · go_wp2_with fail
                  go_roundg (n - (k + 1))
                  case measure => have := HGK.out; omega
                  case rel => exact ⟨k + 1, _, rfl, by omega, by go_num, HMID3.out, HPUT.out⟩
            · obtain rfl : k = n := by omega
              have HNX := Lib.hid (show Mid l at_ S U (i + 1) 0 by have h := HMID.out; rw [HN.out] at h; exact h.next)
              go_wp2_with fail
              go_roundg (k - (i + 1))
              case measure => have := HGI.out; omega
              case rel => exact ⟨i + 1, U, rfl, by omega, by go_num, HNX.out, HST.out⟩
        · obtain rfl : i = n := by omega
          have HNX := Lib.hid (show Rnd l at_ T (r + 1) by have h := HMID.out; rw [HN.out] at h; exact h.rnd HRN.out)
          go_wp2_with fail
          go_roundg (i + 1 - (r + 1))
          case measure => have := HGR.out; omega
          case rel => exact ⟨r + 1, T, rfl, by omega, by go_num, HNX.out, HST.out⟩
    · obtain rfl : r = n + 1 := by omega
      have HALL := Lib.hid (HRN.out.all (by have := HN.out; omega))
      have HST := Lib.hid (show BS w n (cutR l at_ but 0) wo by rw [cutR_zero, ← HALL.out]; exact HST.out)
      clear HSLN
      go_wp2_with fail
      go_loopg [12] n (fun g i wr => ∃ k : Nat, g = n - k ∧ k ≤ n ∧ i = .int .i64 k ∧ BS w n (cutR l at_ but k) wr)
      case atStart => exact ⟨0, rfl, by omega, rfl, HST.out⟩
      case round =>
        clear HST
        rename World => wp
        obtain ⟨k, hgk, hk, rfl, hst⟩ := hrel
        have HGK := Lib.hid hgk
        have HST := Lib.hid hst
        clear hgk hst
        by_cases hkn : k < n
        · obtain ⟨vb, vo, y, rfl, hy, d0⟩ := (HBV.out.below HST.out.bel).bool hkn
          have hgd : but.getD k false = y := by rw [List.getD_eq_getElem?_getD, hy]; rfl
          have HGD := Lib.hid hgd
          clear hy hgd
          cases y
          · have HNX := Lib.hid (cutR_skip (l := l) (a := at_) HGD.out)
            go_wp2_with fail
            go_roundg (n - (k + 1))
            case measure => have := HGK.out; omega
            case rel => exact ⟨k + 1, rfl, by omega, by go_num, by rw [HNX.out]; exact HST.out⟩
          · have hkl : k < (cutR l at_ but k).length := by rw [cutR_len, ← HN.out]; exact hkn
            have HNX := Lib.hid (cutR_put (l := l) (a := at_) HGD.out)
            obtain ⟨ti, -, t0⟩ := HST.out.row.get hkl
            have f1 := HST.out.row.free k
            have HPUT := Lib.hid (HST.out.put hkl false)
            clear hkl
            go_wp2_with fail
            go_roundg (n - (k + 1))
            case measure => have := HGK.out; omega
            case rel => exact ⟨k + 1, rfl, by omega, by go_num, by rw [HNX.out]; exact HPUT.out⟩
        · obtain rfl : k = n := by omega
          have HF := Lib.hid (cutR_all (l := l) (a := at_) (but := but) HN.out)
          go_wp2_with fail
          go_ret
          exact ⟨_, rfl, by rw [← HF.out]; exact HST.out.row, HST.out.bel⟩
end Go.Proofs.Ytfkcldaogfengaa
end

section
/-
  The document's Template. Conditions: the entries, of bounded fees and sizes, lie in memory.
-/
namespace Go.Proofs.Ytfkcldaogfengaa
open Go.RowKit Go.BigFrame
set_option linter.unusedVariables false
set_option linter.unusedSimpArgs false

/-- Places as marks. -/
def tb (n : Nat) (ps : List Nat) : List Bool := (List.range n).map fun k => ps.contains k
theorem tb_len (n : Nat) (ps : List Nat) : (tb n ps).length = n := by unfold tb; rw [List.length_map, List.length_range]
theorem tb_nil (n : Nat) : tb n [] = List.replicate n false := by
  unfold tb
  refine List.ext_getElem? fun k => ?_
  rw [List.getElem?_map, List.getElem?_replicate]
  by_cases hk : k < n
  · rw [List.getElem?_range hk, if_pos hk]; rfl
  · rw [List.getElem?_eq_none (by simpa using hk), if_neg hk]; rfl
theorem tb_at {n k : Nat} {ps : List Nat} (hk : k < n) : (tb n ps)[k]? = some (ps.contains k) := by
  unfold tb
  rw [List.getElem?_map, List.getElem?_range hk]
  rfl
theorem tb_get {n k : Nat} {ps : List Nat} (hk : k < n) : (tb n ps).getD k false = ps.contains k := by
  rw [List.getD_eq_getElem?_getD, tb_at hk]; rfl
theorem tb_snoc {n i : Nat} {ps : List Nat} (hi : i < n) : tb n (ps ++ [i]) = (tb n ps).set i true := by
  refine List.ext_getElem? fun k => ?_
  by_cases hk : k < n
  · rw [tb_at hk]
    by_cases e : i = k
    · subst e
      rw [List.getElem?_set_self (by rw [tb_len]; exact hi)]
      simp
    · rw [List.getElem?_set_ne e, tb_at hk]
      refine congrArg some ?_
      rw [Bool.eq_iff_iff]
      simp [List.contains_iff_mem]
      exact fun h => absurd h.symm e
  · rw [List.getElem?_eq_none (by rw [tb_len]; omega), List.getElem?_eq_none (by rw [List.length_set, tb_len]; omega)]
/-- Of marks as they come from Bundle: the places of a package. -/
theorem insOf_bund {l : List PE} {i n : Nat} {ps : List Nat} (hn : n = l.length) : insOf ((List.range l.length).map fun k => reachB l i k && !((tb n ps).getD k false)) l.length = bundL l i fun k => ps.contains k := by
  subst hn
  unfold insOf bundL
  refine List.filter_congr fun k hk => ?_
  have hk' := List.mem_range.1 hk
  rw [List.getD_eq_getElem?_getD, List.getElem?_map, List.getElem?_range hk']
  simp only [Option.map_some, Option.getD_some]
  rw [tb_get hk']
structure DT (w : World) (n A B C : Nat) (vo : Value) (st sp : List Bool) (q : List Nat) (wr : World) : Prop where
  bel : Below w.heap.size w wr
  ab : w.heap.size ≤ A ∧ A < B ∧ B < C ∧ C ≤ wr.heap.size
  tk : BlRow A wr (.slice (some ⟨A, 0, none⟩) n n) st
  ps : BlRow B wr (.slice (some ⟨B, 0, none⟩) n n) sp
  od : NatRow C wr vo q
section
variable {w wr w' : World} {n A B C : Nat} {vo : Value} {st sp : List Bool} {q : List Nat}
theorem DT.below (h : DT w n A B C vo st sp q wr) (hb : Below wr.heap.size wr w') : DT w n A B C vo st sp q w' :=
  ⟨h.bel.trans (hb.mono h.bel.size), ⟨h.ab.1, h.ab.2.1, h.ab.2.2.1, Nat.le_trans h.ab.2.2.2 hb.size⟩, h.tk.below hb, h.ps.below hb, h.od.below hb⟩
theorem DT.putT (h : DT w n A B C vo st sp q wr) {i : Nat} (hi : i < st.length) (b : Bool) : DT w n A B C vo (st.set i b) sp q (wr.setCell ⟨A, i, none⟩ (.bool b)) :=
  ⟨h.bel.setCell (p := ⟨A, i, none⟩) h.ab.1 _, ⟨h.ab.1, h.ab.2.1, h.ab.2.2.1, by have := h.ab.2.2.2; simpa using this⟩, h.tk.put hi b,
    ownsRow_other h.ps _ _ (fun e => by have := (h.ps.lt _ e).1; have := h.ab.2.1; dsimp only at *; omega), ownsRow_other h.od _ _ (fun e => by have := (h.od.lt _ e).1; have := h.ab; dsimp only at *; omega)⟩
theorem DT.putP (h : DT w n A B C vo st sp q wr) {i : Nat} (hi : i < sp.length) (b : Bool) : DT w n A B C vo st (sp.set i b) q (wr.setCell ⟨B, i, none⟩ (.bool b)) :=
  ⟨h.bel.setCell (p := ⟨B, i, none⟩) (by have := h.ab; dsimp only; omega) _, ⟨h.ab.1, h.ab.2.1, h.ab.2.2.1, by have := h.ab.2.2.2; simpa using this⟩,
    ownsRow_other h.tk _ _ (fun e => by
      obtain rfl : A = B := by simpa [Value.ownBlock] using e
      have := h.ab.2.1; omega), h.ps.put hi b, ownsRow_other h.od _ _ (fun e => by have := (h.od.lt _ e).1; have := h.ab; dsimp only at *; omega)⟩
theorem DT.app (h : DT w n A B C vo st sp q wr) (j : Nat) (hn : q.length < 1000000) :
    ∃ a' c' wd, (Builtin.append_ #[23, 23] 23 #[vo, .slice (some ⟨wr.heap.size, 0, none⟩) 1 1]).run Try.prog (wr.alloc (.cells #[.int .i64 (j : Int)] 3)) = .ok (.slice a' (q.length + 1) c') wd ∧
      DT w n A B C (.slice a' (q.length + 1) c') st sp (q ++ [j]) wd ∧ (∀ b, b < wr.heap.size → vo.ownBlock ≠ some b → wd.heap[b]? = wr.heap[b]?) ∧ (∀ b, (Value.slice a' (q.length + 1) c').ownBlock = some b → vo.ownBlock = some b ∨ wr.heap.size ≤ b) := by
  obtain ⟨i0, hi, hz0, hz1, hz2⟩ := info_parts info_int
  obtain ⟨a2, c2, w2, hrun, hown2, hb2, hg2, hv2⟩ := append_one (P := Try.prog) Try.underlying23 hi hz0 hz1 hz2 rfl h.od #[.int .i64 (j : Int)] rfl (by simp [Value.oneCell']) (by rw [maxLen_eq]; omega) (by omega) h.ab.2.2.2 (ty := 23)
  have keep : ∀ b, b < wr.heap.size → vo.ownBlock ≠ some b → w2.heap[b]? = wr.heap[b]? := fun b hb hne => by
    rw [hg2.block b (by simp; omega) (fun e => hne e.symm)]; exact Below.heap_alloc wr _ b hb
  have hC := h.ab
  refine ⟨a2, c2, w2, hrun, ⟨h.bel.trans (hb2.mono (by omega)), ⟨hC.1, hC.2.1, hC.2.2.1, Nat.le_trans hC.2.2.2 hb2.size⟩, ?_, ?_, ?_⟩, keep, fun b hb => ?_⟩
  · exact ownsRow_of_block h.tk fun b hb => keep b (h.tk.lt b hb).2 (fun e => by
      obtain rfl : A = b := by simpa [Value.ownBlock] using hb
      have := (h.od.lt _ e).1; omega)
  · exact ownsRow_of_block h.ps fun b hb => keep b (h.ps.lt b hb).2 (fun e => by
      obtain rfl : B = b := by simpa [Value.ownBlock] using hb
      have := (h.od.lt _ e).1; omega)
  · unfold NatRow
    rw [List.length_append, List.map_append, List.map_append]
    exact hown2
  · rcases hv2 with e | e
    · exact .inl (e ▸ hb)
    · rw [e] at hb; injection hb with hb; exact .inr (by omega)
end
end Go.Proofs.Ytfkcldaogfengaa
end
