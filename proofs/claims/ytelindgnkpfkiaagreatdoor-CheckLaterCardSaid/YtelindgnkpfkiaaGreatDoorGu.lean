/-
  CheckLater: the walk. Conditions: the job lies in memory; errors.errorType holds its handle.
-/
import Derived.Test.YtelindgnkpfkiaaGreatDoorGs
import Derived.Test.YtelindgnkpfkiaaGreatDoorGt
import Derived.Test.YtelindgnkpfkiaaGreatDoorTxJ
namespace Go.Proofs.YtelindgnkpfkiaaGreatDoor
open Go.RowKit Go.BigFrame
set_option linter.unusedVariables false
set_option linter.unusedSimpArgs false

/-- An error is none of the set's blocks. -/
theorem erAt_turn {w w' : World} {v : Value} {x : PEr} {B b m : Nat} {lc : CL} {c : Nat} {tot : Int} (h : ErAt w v x) (hc : CsAt B w b m lc c tot) (hfr : Fr [b, m] w w') : ErAt w' v x := by
  cases x with
  | none => exact h
  | num n => exact h
  | fault a n =>
    obtain ⟨bf, h1, h2⟩ := h
    refine ⟨bf, h1, (hfr.block bf (lt_of h2) ?_).trans h2⟩
    have hx := hc.box
    have hm : w.heap[m]? = _ := hc.map
    unfold FaAt at h2
    simp only [List.mem_cons, List.not_mem_nil, or_false, not_or]
    constructor
    · rintro rfl
      rw [hx] at h2
      injection h2 with h2
      injection h2 with _ h2
      exact absurd h2 (by decide)
    · rintro rfl
      rw [hm] at h2
      cases h2
theorem taken_size {lc : CL} {c : Nat} (hw : PWf lc c) (q : Pt) (h : ∀ p, (getP noCn p lc).1.script.size ≤ 9223372036854775807) (p : Pt) : (getP noCn p (takL lc q)).1.script.size ≤ 9223372036854775807 := by
  by_cases hp : q = p
  · subst hp
    rw [getP_taken hw]
    show (0 : Nat) ≤ _
    decide
  · rw [getP_take hp]
    exact h p
def RGu (U b7 n ci q : Nat) : Nat → Fact
  | 0 => .val fun _ => .pointer (some ⟨U, 1, none⟩)
  | 1 => .val fun _ => .slice (some ⟨b7, 0, none⟩) n ci
  | 2 => .val fun _ => .int .i64 q
  | 3 => .row 1 fun _ => .cells #[.string (signW 0 999)] 9 (0, 0)
  | _ => .any
set_option maxRecDepth 100000 in
set_option maxHeartbeats 8000000 in
theorem later_walk (v : Value) (j : PJb) (la wh : Nat) (w : World) (hj : JobAt w v j) (hla : la < 65536) (hwh : wh < 256) (hg : HdAt w) : Calls Tryz.prog 6 #[v, .int .u16 la, .int .u8 wh] w fun e w' => e = .returned (.bool true) ∧ Below w.heap.size w w' := by
  obtain ⟨vc, vs, vo, rfl, hc, hs, ho, hver, hlock, hht0, hht1⟩ := hj
  obtain ⟨lj, ls, lo0, ver, lock, ht⟩ := j
  have HG := Lib.hid hg
  have HJ := Lib.hid (And.intro hc (And.intro hs ho))
  have HV := Lib.hid (And.intro hver hlock)
  clear hg hc hs ho hver hlock
  go_enter Tryz.func6, Tryz.ntmps6
  go_upto_region 1 with fail
  have hz := heap_alloc_new w (.cells #[vc, vs, vo, .int .u32 ver, .int .u32 lock, .int .i64 ht] 27)
  have hal : Below w.heap.size w (w.alloc (.cells #[vc, vs, vo, .int .u32 ver, .int .u32 lock, .int .i64 ht] 27)) := (Below.refl _ _).alloc (Nat.le_refl _) _
  obtain ⟨X, hX⟩ : ∃ q, q = w.heap.size := ⟨_, rfl⟩
  rw [← hX] at hz ⊢
  generalize w.alloc (.cells #[vc, vs, vo, .int .u32 ver, .int .u32 lock, .int .i64 ht] 27) = w0 at *
  have HZ0 := Lib.hid hz
  have HB0 := Lib.hid hal
  have HJ0 := Lib.hid (And.intro (HJ.out.1.below hal) (And.intro (HJ.out.2.1.below hal) (HJ.out.2.2.below hal)))
  have x0 : w0.cell? ⟨X, 0, none⟩ = some vc := cell_at hz
  have x1 : w0.cell? ⟨X, 1, none⟩ = some vs := cell_at hz
  have x2 : w0.cell? ⟨X, 2, none⟩ = some vo := cell_at hz
  have x3 : w0.cell? ⟨X, 3, none⟩ = some (.int .u32 ver) := cell_at hz
  have x4 : w0.cell? ⟨X, 4, none⟩ = some (.int .u32 lock) := cell_at hz
  have x5 : w0.cell? ⟨X, 5, none⟩ = some (.int .i64 ht) := cell_at hz
  have HXw := Lib.hid (show w.heap.size ≤ X by omega)
  clear hz hal hX
  go_wp2_with fail
  refine (held_any vc vs vo lj ver lock ht w0 HJ0.out.1).mono ?_
  rintro e w1 ⟨b, m, vl, lc, c, tot, le, S, rfl, hh, hle, hS, hb⟩
  have HH1 := Lib.hid hh
  have HZ1 := Lib.hid (stay HZ0.out hb)
  have HB1 := Lib.hid (HB0.out.trans (hb.mono HB0.out.size))
  have HJ1 := Lib.hid (And.intro (HJ0.out.1.below hb) (And.intro (HJ0.out.2.1.below hb) (HJ0.out.2.2.below hb)))
  have HS := Lib.hid (And.intro hle hS)
  replace x0 := below_cells hb _ _ x0
  replace x1 := below_cells hb _ _ x1
  replace x2 := below_cells hb _ _ x2
  replace x3 := below_cells hb _ _ x3
  replace x4 := below_cells hb _ _ x4
  replace x5 := below_cells hb _ _ x5
  clear hh hb hle hS
  dsimp only
  go_wp2_with fail
  refine (spendJ_any vc vs vo lj ls lo0 ver lock ht w1 HJ1.out.1 HJ1.out.2.1 HJ1.out.2.2 HV.out.1 HV.out.2).mono ?_
  rintro e w2 ⟨vt, t, rfl, hto, hlo, hli, hb⟩
  have HTO := Lib.hid hto
  have HL := Lib.hid (And.intro hlo hli)
  have HH2 := Lib.hid (HH1.out.below hb)
  have HB2 := Lib.hid (HB1.out.trans (hb.mono HB1.out.size))
  replace x5 := below_cells hb _ _ x5
  obtain ⟨⟨vi, vo2, ps, rfl, hps, hio, hoo, -⟩, -, -⟩ := hto
  obtain ⟨ai, ci, rfl, -, -⟩ := ownsRow_shape hio.row
  obtain ⟨ao, co, rfl, -, -⟩ := ownsRow_shape hoo.row
  have HIO := Lib.hid hio
  have HPS := Lib.hid hps
  have HSZ := Lib.hid (And.intro (HB0.out.size) (And.intro HH1.out.set.lt hb.size))
  clear hb hlo hli hio hoo hps x0 x1 x2 x3 x4 HZ0 HZ1 HJ HJ0 HJ1 HB1
  dsimp only
  go_upto_region 3 with fail
  have hz := heap_alloc_new w2 (.cells #[.int .u32 t.ver, .slice ai ps.length ci, .slice ao t.outs.length co, .int .u32 t.lock] 35)
  have hal : Below w2.heap.size w2 (w2.alloc (.cells #[.int .u32 t.ver, .slice ai ps.length ci, .slice ao t.outs.length co, .int .u32 t.lock] 35)) := (Below.refl _ _).alloc (Nat.le_refl _) _
  obtain ⟨T, hT⟩ : ∃ q, q = w2.heap.size := ⟨_, rfl⟩
  rw [← hT] at hz ⊢
  generalize w2.alloc (.cells #[.int .u32 t.ver, .slice ai ps.length ci, .slice ao t.outs.length co, .int .u32 t.lock] 35) = w3 at *
  have HKP := Lib.hid (show KpI w w0.heap.size w1.heap.size b m lc c tot T (.agg #[.int .u32 t.ver, .slice ai ps.length ci, .slice ao t.outs.length co, .int .u32 t.lock]) #[.int .u32 t.ver, .slice ai ps.length ci, .slice ao t.outs.length co, .int .u32 t.lock] t (.slice ai ps.length ci) ps w3 from
    ⟨HB2.out.trans (hal.mono HB2.out.size), HH2.out.set.below hal, HTO.out.below hal, HIO.out.below hal, hz⟩)
  have HNE := Lib.hid (show (b < w1.heap.size ∧ m < w1.heap.size) ∧ T ≠ b ∧ T ≠ m ∧ w.heap.size ≤ w0.heap.size by have := HSZ.out; omega)
  have HLE := Lib.hid True.intro
  have HPN := Lib.hid (show ps.length ≤ 6 by have := HL.out.2; rw [HPS.out, List.length_map] at this; exact this)
  replace x5 := below_cells hal _ _ x5
  obtain ⟨h2, hh2⟩ : ∃ q, q = (max 0 ht) % 400 := ⟨_, rfl⟩
  have h2b : 0 ≤ h2 ∧ h2 < 400 := by rw [hh2]; omega
  have HH := Lib.hid hh2.symm
  have HSZP := Lib.hid HH2.out.size
  clear hz hal hT hh2 HH2 HB2 HTO HIO HSZ HH1 HLE
  go_upto_region 4 with fail
  rw [HH.out]
  have t0 : w3.cell? ⟨T, 0, none⟩ = some (.int .u32 t.ver) := cell_at HKP.out.box
  have t1 : w3.cell? ⟨T, 1, none⟩ = some (.slice ai ps.length ci) := cell_at HKP.out.box
  have t2 : w3.cell? ⟨T, 2, none⟩ = some (.slice ao t.outs.length co) := cell_at HKP.out.box
  have t3 : w3.cell? ⟨T, 3, none⟩ = some (.int .u32 t.lock) := cell_at HKP.out.box
  have HHZ := Lib.hid (show ∀ p, (getP noCn p lc).1.script.size ≤ 9223372036854775807 from HSZP.out)
  obtain ⟨⟨z1, z2⟩, hz⟩ : ∃ z, z = feeE (fun p => getP noCn p lc) t h2 := ⟨_, rfl⟩
  have hf1 := kfee_any HKP.out.set HHZ.out _ t h2 (by omega) HKP.out.own.tx HL.out.1 (by have := HL.out.2; omega)
  rw [← hz] at hf1
  have HF1 := Lib.hid hf1
  have hzs := feeE_shape (fun p => getP noCn p lc) t h2
  have HZ := Lib.hid hz
  rw [← hz] at hzs
  have HZS := Lib.hid hzs
  clear hf1 hz hzs
  go_wp2_with fail
  refine HF1.out.mono ?_
  rintro e w4 ⟨v4, rfl, he4, hb⟩
  have HK4 := Lib.hid (HKP.out.below hb)
  clear hb HF1 t0 t1 t2 t3
  dsimp only at he4 ⊢
  rcases HZS.out with ⟨n, h⟩ | ⟨n, h, hn⟩ | ⟨a, n, h, hn⟩
  · obtain ⟨rfl, rfl⟩ : z1 = n ∧ z2 = .none := by cases h; exact ⟨rfl, rfl⟩
    obtain rfl : v4 = .nilIface := he4
    have HOK := Lib.hid (feeE_ok HZ.out.symm)
    clear HZS HZ h
    go_wp2_with fail
    refine (kwakes_any w4 (HG.out.below HK4.out.bel)).mono ?_
    rintro e w5 ⟨rfl, hb⟩
    have HK5 := Lib.hid (HK4.out.below hb)
    clear hb
    have t0 : w5.cell? ⟨T, 0, none⟩ = some (.int .u32 t.ver) := cell_at HK5.out.box
    have t1 : w5.cell? ⟨T, 1, none⟩ = some (.slice ai ps.length ci) := cell_at HK5.out.box
    have t2 : w5.cell? ⟨T, 2, none⟩ = some (.slice ao t.outs.length co) := cell_at HK5.out.box
    have t3 : w5.cell? ⟨T, 3, none⟩ = some (.int .u32 t.lock) := cell_at HK5.out.box
    have hwl : IntKind.i64.wrap (h2 + (la : Int)) = h2 + (la : Int) := by rw [IntKind.wrap_i64]; omega
    have hf2 := kfee_any HK5.out.set HHZ.out _ t (h2 + (la : Int)) (by omega) HK5.out.own.tx HL.out.1 (by have := HL.out.2; omega)
    rw [feeE_of (fee_later HOK.out (h' := h2 + (la : Int)) (by omega) (by omega))] at hf2
    have HF2 := Lib.hid hf2
    clear hf2
    dsimp only
    go_wp2_with fail
    refine HF2.out.mono ?_
    rintro e w6 ⟨v6, rfl, he6, hb⟩
    obtain rfl : v6 = .nilIface := he6
    have HK6 := Lib.hid (HK5.out.below hb)
    replace t0 := below_cells hb _ _ t0
    replace t1 := below_cells hb _ _ t1
    replace t2 := below_cells hb _ _ t2
    replace t3 := below_cells hb _ _ t3
    clear hb hwl HF2
    have hck := checkOf_ok (formE_ok HOK.out.form).1
    have hcnt := hck.1
    unfold countsOf at hcnt
    simp only [Bool.and_eq_true, decide_eq_true_eq, Bool.not_eq_true', List.any_eq_false] at hcnt
    have hpl : ps.length = t.ins.length := by rw [HPS.out, List.length_map]
    have hpos : 0 < ps.length := by rw [hpl]; omega
    obtain ⟨q, hq⟩ : ∃ q, q = wh % ps.length := ⟨_, rfl⟩
    have hql : q < ps.length := by rw [hq]; exact Nat.mod_lt _ hpos
    have htm : ((wh : Int)).tmod (ps.length : Int) = (q : Int) := by rw [Int.tmod_eq_emod_of_nonneg (by omega), hq]; rfl
    have hn0 : ((ps.length : Int) == 0) = false := by rw [beq_eq_false_iff_ne]; omega
    have hwh2 : IntKind.i64.wrap (wh : Int) = (wh : Int) := by rw [IntKind.wrap_i64]; omega
    have HCP := Lib.hid (copy_any _ t w6 HK6.out.own.tx (by have := HL.out.2; omega) HL.out.1 (fun x hx => by have := hcnt.2 x hx; simp at this; omega))
    have HPL := Lib.hid hpl
    clear hck hcnt hpl hq
    dsimp only
    go_wp2_with fail
    refine HCP.out.mono ?_
    rintro e w7 ⟨v7, rfl, hto7, hb⟩
    have HK7 := Lib.hid (HK6.out.below hb)
    have HTO7 := Lib.hid hto7
    have HB67 := Lib.hid hb
    obtain ⟨⟨vi7, vo7, ps7, rfl, hps7, hio7, hoo7, hap7⟩, hv7, hl7⟩ := hto7
    obtain ⟨ai7, ci7, rfl, -, -⟩ := ownsRow_shape hio7.row
    obtain ⟨ao7, co7, rfl, -, -⟩ := ownsRow_shape hoo7.row
    have hpl7 : ps7.length = ps.length := by rw [HPL.out, hps7, List.length_map]
    obtain ⟨⟨x7, wv7⟩, hp7⟩ : ∃ p, ps7[q]? = some p := ⟨_, List.getElem?_eq_getElem (by omega)⟩
    obtain ⟨b7, rfl, hb7l, hb7h, -, -, -, -⟩ := hio7.at hp7
    have HX7 := Lib.hid (show t.ins[q]? = some x7 by rw [hps7, List.getElem?_map, hp7]; rfl)
    have HI7 := Lib.hid (And.intro hio7 (And.intro hoo7 (And.intro hap7 (And.intro hps7 (And.intro hp7 (And.intro hv7 hl7))))))
    clear hb hio7 hoo7 hap7 hps7 hp7 hv7 hl7 HCP t0 t1 t2 t3 htm hn0 hwh2
    have HPL7 := Lib.hid hpl7
    rw [hpl7]
    clear hpl7
    dsimp only
    go_upto_region 10 with fail
    have hz := heap_alloc_new w7 (.cells #[.int .u32 t.ver, .slice (some ⟨b7, 0, none⟩) ps.length ci7, .slice ao7 t.outs.length co7, .int .u32 t.lock] 35)
    have hal : Below w7.heap.size w7 (w7.alloc (.cells #[.int .u32 t.ver, .slice (some ⟨b7, 0, none⟩) ps.length ci7, .slice ao7 t.outs.length co7, .int .u32 t.lock] 35)) := (Below.refl _ _).alloc (Nat.le_refl _) _
    obtain ⟨U, hU⟩ : ∃ q, q = w7.heap.size := ⟨_, rfl⟩
    rw [← hU] at hz ⊢
    generalize w7.alloc (.cells #[.int .u32 t.ver, .slice (some ⟨b7, 0, none⟩) ps.length ci7, .slice ao7 t.outs.length co7, .int .u32 t.lock] 35) = w8 at *
    have HZU := Lib.hid hz
    have HAL := Lib.hid hal
    have HK8 := Lib.hid (HK7.out.below hal)
    have hbu : b7 < U := by omega
    have HSU := Lib.hid (show U < w8.heap.size from lt_of hz)
    have u1 : w8.cell? ⟨U, 1, none⟩ = some (.slice (some ⟨b7, 0, none⟩) ps.length ci7) := cell_at hz
    clear hz hal hU
    go_upto_region 10 with fail
    refine wp_region_made (RGu U b7 ps.length ci7 q) 4 (by kernel_rfl) (by kernel_rfl) (by kernel_rfl) (by kernel_rfl) (by decide) (by kernel_rfl) ?_ ?_
    · intro i o hi ho L xs lo hi' wr hmd hni hpre
      obtain ⟨x0, x1, x2, x3, rfl⟩ : ∃ x0 x1 x2 x3, xs = [x0, x1, x2, x3] := by match xs, hmd.len with | [x0, x1, x2, x3], _ => exact ⟨_, _, _, _, rfl⟩
      match i, ho with
      | 0, ho =>
        obtain rfl := Option.some.inj ho
        have kk := fun lx ox ax => @step_pure Tryz.prog (RGu U b7 ps.length ci7 q) lx [x0, x1, x2, x3] ox ax wr 0 (.pointer (some ⟨U, 1, none⟩))
        refine kk _ _ _ ?_ ?_
        · kernel_rfl
        · exact rfl
      | 1, ho =>
        obtain rfl := Option.some.inj ho
        have h_0 : x0 = .pointer (some ⟨U, 1, none⟩) := hmd.rel 0 (hpre 0 (by kernel_rfl))
        subst h_0
        have s1 := below_cells hmd.bel _ _ u1
        have kk := fun lx ox ax => @step_pure Tryz.prog (RGu U b7 ps.length ci7 q) lx [(.pointer (some ⟨U, 1, none⟩)), x1, x2, x3] ox ax wr 1 (.slice (some ⟨b7, 0, none⟩) ps.length ci7)
        refine kk _ _ _ ?_ ?_
        · simp [putAll, execOp, go_sem, s1]
        · exact rfl
      | 2, ho =>
        obtain rfl := Option.some.inj ho
        have kk := fun lx ox ax => @step_pure Tryz.prog (RGu U b7 ps.length ci7 q) lx [x0, x1, x2, x3] ox ax wr 2 (.int .i64 q)
        refine kk _ _ _ ?_ ?_
        · kernel_rfl
        · exact rfl
      | 3, ho =>
        obtain rfl := Option.some.inj ho
        have kk := fun lx ox ax => @step_call Tryz.prog (RGu U b7 ps.length ci7 q) lx [x0, x1, x2, x3] ox ax wr 3 _ _ _ (rsign_new 0 999 (by decide) (by decide) wr)
        refine kk _ _ _ ?_ ?_
        · kernel_rfl
        · exact fun e w' h => by obtain ⟨v, rfl, p, rfl, hp, hg, hb⟩ := h; exact ⟨_, rfl, hb, p, hp, lt_of hg, rfl, hg⟩
      | q + 4, ho => omega
    · intro xs lo hi wr hmd
      obtain ⟨x0, x1, x2, x3, rfl⟩ : ∃ x0 x1 x2 x3, xs = [x0, x1, x2, x3] := by match xs, hmd.len with | [x0, x1, x2, x3], _ => exact ⟨_, _, _, _, rfl⟩
      simp only [putAll]
      change wpList _ _ _ (_ :: _ :: _ :: []) _ _
      have h0 : x0 = .pointer (some ⟨U, 1, none⟩) := hmd.rel 0 (by decide)
      have h1 : x1 = .slice (some ⟨b7, 0, none⟩) ps.length ci7 := hmd.rel 1 (by decide)
      have h2' : x2 = .int .i64 q := hmd.rel 2 (by decide)
      obtain ⟨pw, hpw1, hpw2, h3, hpz⟩ : ∃ b, lo 3 ≤ b ∧ b < hi 3 ∧ x3 = .slice (some ⟨b, 0, none⟩) 1 1 ∧ wr.heap[b]? = some (.cells #[.string (signW 0 999)] 9 (0, 0)) := hmd.rel 3 (by decide)
      subst h0
      subst h1
      subst h2'
      subst h3
      have hlh := hmd.lohi 3 (by decide)
      have HB8 := Lib.hid hmd.bel
      have hb7r := HAL.out.trans (hmd.bel.mono HAL.out.size)
      have HI9 := Lib.hid (HI7.out.1.below hb7r)
      have hc3 := HI9.out.at HI7.out.2.2.2.2.1
      have hs78 := HAL.out.size
      clear hmd
      obtain ⟨b9, hb9, -, -, -, -, -, hcell⟩ := hc3
      obtain rfl : b7 = b9 := by injection hb9 with e; injection e
      have hfz : wr.frozen? ⟨b7, q * 4 + 3, none⟩ = false := by
        obtain ⟨-, h | ⟨g, cap, cur, e, -, hg, -⟩⟩ := HI9.out.row
        · cases h.1
        · obtain rfl : b7 = g := by injection e with e; injection e with e; injection e
          exact free_at hg
      go_upto_region 11 with fail
      have hI9 := HI9.out.set (p' := ({ x7 with wit := [signW 0 999] }, .slice (some ⟨pw, 0, none⟩) 1 1)) HI7.out.2.2.2.2.1 3 (.slice (some ⟨pw, 0, none⟩) 1 1) (by decide) rfl
        (own_strJ (by have := HB67.out.size; omega) hpz) ⟨(HI7.out.1.ok q _ HI7.out.2.2.2.2.1).id, (HI7.out.1.ok q _ HI7.out.2.2.2.2.1).idx, (HI7.out.1.ok q _ HI7.out.2.2.2.2.1).seq, fun s hs => by rw [List.mem_singleton.1 hs, signW_size]; decide⟩
        (.inr (.inr ⟨pw, rfl, fun hh => by have := (HI7.out.1.lt hh).2; omega⟩))
      rw [HPL7.out] at hI9
      have hou := (HI7.out.2.1.below hb7r).kept (w' := wr.setCell ⟨b7, q * 4 + 3, none⟩ (.slice (some ⟨pw, 0, none⟩) 1 1)) fun k hk => Below.heap_setCell _ _ _ _ (fun e => HI7.out.2.2.1 k hk (.inl (by rw [e]; rfl)))
      have hub : Below w6.heap.size w6 (wr.setCell ⟨b7, q * 4 + 3, none⟩ (.slice (some ⟨pw, 0, none⟩) 1 1)) := (HB67.out.trans (hb7r.mono HB67.out.size)).setCell (p := ⟨b7, q * 4 + 3, none⟩) hb7l _
      have hzu : (wr.setCell ⟨b7, q * 4 + 3, none⟩ (.slice (some ⟨pw, 0, none⟩) 1 1)).heap[U]? = _ := (Below.heap_setCell _ _ _ _ (show U ≠ b7 by omega)).trans (stay HZU.out HB8.out)
      have hown : TxOwn w6.heap.size (wr.setCell ⟨b7, q * 4 + 3, none⟩ (.slice (some ⟨pw, 0, none⟩) 1 1)) (.agg #[.int .u32 t.ver, .slice (some ⟨b7, 0, none⟩) ps.length ci7, .slice ao7 t.outs.length co7, .int .u32 t.lock]) (witAt t q x7) :=
        ⟨⟨_, _, _, rfl, by unfold witAt; dsimp only; rw [List.map_set, ← HI7.out.2.2.2.1], hI9, hou, fun k hk hh => by
          rcases hh with hh | ⟨i, p, hp, hh⟩
          · exact HI7.out.2.2.1 k hk (.inl hh)
          · by_cases hi : q = i
            · subst hi
              rw [List.getElem?_set_self (List.getElem?_eq_some_iff.1 HI7.out.2.2.2.2.1).1] at hp
              obtain rfl := Option.some.inj hp
              obtain rfl : pw = k := by simpa [Value.ownBlock] using hh
              have := (HI7.out.2.1.row.lt _ hk).2
              omega
            · rw [List.getElem?_set_ne hi] at hp
              exact HI7.out.2.2.1 k hk (.inr ⟨i, p, hp, hh⟩)⟩, HI7.out.2.2.2.2.2.1, HI7.out.2.2.2.2.2.2⟩
      have HK9 := Lib.hid (HK6.out.below hub)
      have HU9 := Lib.hid hown
      have HZU9 := Lib.hid hzu
      clear hI9 hou hub hzu hown hfz hcell hb9 hb7r hlh hpz hpw1 hpw2 u1 hs78
      generalize wr.setCell ⟨b7, q * 4 + 3, none⟩ (.slice (some ⟨pw, 0, none⟩) 1 1) = w9 at *
      have u0 : w9.cell? ⟨U, 0, none⟩ = some (.int .u32 t.ver) := cell_at HZU9.out
      have u1 : w9.cell? ⟨U, 1, none⟩ = some (.slice (some ⟨b7, 0, none⟩) ps.length ci7) := cell_at HZU9.out
      have u2 : w9.cell? ⟨U, 2, none⟩ = some (.slice ao7 t.outs.length co7) := cell_at HZU9.out
      have u3 : w9.cell? ⟨U, 3, none⟩ = some (.int .u32 t.lock) := cell_at HZU9.out
      obtain ⟨⟨z3, e3⟩, hz3⟩ : ∃ z, z = feeE (fun p => getP noCn p lc) (witAt t q x7) h2 := ⟨_, rfl⟩
      have hf3 := kfee_any HK9.out.set HHZ.out _ (witAt t q x7) h2 (by omega) HU9.out.tx HL.out.1 (by rw [wa_len]; have := HL.out.2; omega)
      rw [← hz3] at hf3
      have HF3 := Lib.hid hf3
      have HZ3 := Lib.hid hz3
      clear hf3 hz3
      go_wp2_with fail
      refine HF3.out.mono ?_
      rintro e w10 ⟨v10, rfl, he10, hb⟩
      have HE10 := Lib.hid he10
      have HK10 := Lib.hid (HK9.out.below hb)
      clear hb he10 u0 u1 u2 u3 HF3
      dsimp only
      obtain ⟨⟨x, wv⟩, hp⟩ : ∃ p, ps[q]? = some p := ⟨_, List.getElem?_eq_getElem hql⟩
      obtain rfl : x7 = x := by
        have : t.ins[q]? = some x := by rw [HPS.out, List.getElem?_map, hp]; rfl
        rw [HX7.out] at this
        exact Option.some.inj this
      obtain ⟨bi, rfl, -, -, d0, d1, d2, d3⟩ := HK10.out.ins.at hp
      dsimp only at d0 d1 d2 d3
      have t1 : w10.cell? ⟨T, 1, none⟩ = some (.slice (some ⟨bi, 0, none⟩) ps.length ci) := cell_at HK10.out.box
      have HP := Lib.hid hp
      obtain ⟨⟨cn, cb⟩, hcn⟩ : ∃ q, q = getP noCn (x7.id, x7.idx) lc := ⟨_, rfl⟩
      have hsp := spentR_ok (HOK.out.spent q x7 HX7.out)
      rw [← hcn] at hsp
      dsimp only at hsp
      obtain ⟨rfl, hopen, -⟩ := hsp
      obtain ⟨lb, hlb⟩ := open_get hopen
      have hcg := cget_any HK10.out.set (x7.id, x7.idx)
      rw [← hcn] at hcg
      have HCG := Lib.hid hcg
      have HCN := Lib.hid hcn
      have HLB := Lib.hid hlb
      have HSC := Lib.hid (show cn.script.size ≤ 9223372036854775807 by have := HHZ.out (x7.id, x7.idx); rw [← hcn] at this; exact this)
      clear hp hcn hopen hlb hcg
      unfold ptV cnV at HCG
      dsimp only at HCG
      go_wp2_with fail
      refine HCG.out.mono ?_
      rintro e w11 ⟨rfl, hb⟩
      have HK11 := Lib.hid (HK10.out.below hb)
      have HE11 := Lib.hid (HE10.out.below hb)
      clear hb HCG d0 d1 d2 d3 t1
      dsimp only
      go_upto_region 13 with fail
      have hz := heap_alloc_new w11 (.cells #[.int .i64 cn.val, .string cn.script, .int .i64 cn.height] 50)
      have hal : Below w11.heap.size w11 (w11.alloc (.cells #[.int .i64 cn.val, .string cn.script, .int .i64 cn.height] 50)) := (Below.refl _ _).alloc (Nat.le_refl _) _
      obtain ⟨D, hD⟩ : ∃ q, q = w11.heap.size := ⟨_, rfl⟩
      rw [← hD] at hz ⊢
      generalize w11.alloc (.cells #[.int .i64 cn.val, .string cn.script, .int .i64 cn.height] 50) = w12 at *
      have HK12 := Lib.hid (HK11.out.below hal)
      have HE12 := Lib.hid (HE11.out.below hal)
      have c1 : w12.cell? ⟨D, 1, none⟩ = some (.string cn.script) := cell_at hz
      clear hz hal hD
      go_wp2_with fail
      refine (lget_some HLB.out HSC.out w12).mono ?_
      rintro e w13 ⟨vlb, rfl, hsl, -, hb⟩
      have HK13 := Lib.hid (HK12.out.below hb)
      have HE13 := Lib.hid (HE12.out.below hb)
      obtain ⟨al, cl, rfl, -, -⟩ := hsl.shape
      have HSL := Lib.hid hsl
      clear hb hsl c1
      dsimp only
      go_upto_region 14 with fail
      go_cut [23] (fun s wx => ∃ bm : Bool, s = .bool bm ∧ w13 = wx ∧ (bm = true → ∃ br, lb[0]? = some br ∧ br.tag ≠ 0 ∧ br.tag ≠ 999))
      case first =>
        by_cases hl0 : 0 < lb.length
        · obtain ⟨bb, ob, br, rfl, hbr, -, e0, e1, e2⟩ := HSL.out.br hl0
          have HBR := Lib.hid hbr
          have e0' : w13.cell? ⟨bb, ob, none⟩ = some (.int .u16 br.tag) := by simpa using e0
          clear e0 e1 e2 hbr
          by_cases h0 : br.tag = 0
          · rw [h0] at e0'
            go_wp2_with fail
            go_meet
            exact ⟨false, rfl, rfl, fun h => by cases h⟩
          · by_cases h9 : br.tag = 999
            · rw [h9] at e0'
              go_wp2_with fail
              go_meet
              exact ⟨false, rfl, rfl, fun h => by cases h⟩
            · have g0 : ((br.tag : Int) != 0) = true := by rw [bne_iff_ne]; omega
              have g9 : ((br.tag : Int) != 999) = true := by rw [bne_iff_ne]; omega
              go_wp2_with fail
              go_meet
              exact ⟨true, rfl, rfl, fun _ => ⟨br, HBR.out, h0, h9⟩⟩
        · have hl2 : ¬ ((0 : Int) < (lb.length : Int)) := by omega
          go_wp2_with fail
          go_meet
          exact ⟨false, rfl, rfl, fun h => by cases h⟩
      case rest =>
        rename World => w14
        obtain ⟨bm, rfl, rfl, hmine⟩ := hcut
        have HMI := Lib.hid hmine
        clear hmine
        have hp := HP.out
        obtain ⟨b', hb', -, -, d0, d1, d2, d3⟩ := HK13.out.ins.at hp
        obtain rfl : bi = b' := by injection hb' with e; injection e
        dsimp only at d0 d1 d2 d3
        have t1 : w13.cell? ⟨T, 1, none⟩ = some (.slice (some ⟨bi, 0, none⟩) ps.length ci) := cell_at HK13.out.box
        have HCT := Lib.hid (ctake_any HK13.out.set (x7.id, x7.idx))
        unfold ptV at HCT
        clear hp hb'
        go_wp2_with fail
        refine HCT.out.mono ?_
        rintro e w15 ⟨rfl, hfr, hcs⟩
        have HK15 := Lib.hid (HK13.out.turn HNE.out.2.2.2 HNE.out.1 ⟨HNE.out.2.1, HNE.out.2.2.1⟩ hfr hcs)
        have HSR := Lib.hid hfr
        clear hcs hfr d0 d1 d2 d3 t1 HCT
        have HE15 := Lib.hid (erAt_turn HE13.out HK13.out.set HSR.out)
        have hnd := (checkOf_ok (formE_ok HOK.out.form).1).2.2.2.1
        have hgone : feeE (fun p => getP noCn p (takL lc (x7.id, x7.idx))) t h2 = (0, .fault q 8) :=
          fee_gone HOK.out HX7.out (fun j y hy hj => by
            have hne : ((x7.id, x7.idx) : Pt) ≠ (y.id, y.idx) := by
              have h1 : (ptsOf t)[q]? = some (x7.id, x7.idx) := by unfold ptsOf; rw [List.getElem?_map, HX7.out]; rfl
              have h2 : (ptsOf t)[j]? = some (y.id, y.idx) := by unfold ptsOf; rw [List.getElem?_map, hy]; rfl
              obtain ⟨a1, a2⟩ := List.getElem?_eq_some_iff.1 h1
              obtain ⟨b1, b2⟩ := List.getElem?_eq_some_iff.1 h2
              rcases Nat.lt_or_gt_of_ne hj with hj | hj
              · have := List.pairwise_iff_getElem.1 hnd j q b1 a1 hj
                rw [a2, b2] at this
                exact fun e => this e.symm
              · have := List.pairwise_iff_getElem.1 hnd q j a1 b1 hj
                rw [a2, b2] at this
                exact this
            exact getP_take hne) (by show (getP noCn (x7.id, x7.idx) (takL lc (x7.id, x7.idx))).2 = false; rw [getP_taken HK13.out.set.wf])
        have hf4 := kfee_any HK15.out.set (taken_size HK13.out.set.wf _ HHZ.out) _ t h2 (by omega) HK15.out.own.tx HL.out.1 (by have := HL.out.2; omega)
        rw [hgone] at hf4
        have HF4 := Lib.hid hf4
        clear hf4 hgone hnd
        generalize takE lc (x7.id, x7.idx) = tk
        unfold cnV
        have t0 : w15.cell? ⟨T, 0, none⟩ = some (.int .u32 t.ver) := cell_at HK15.out.box
        have t1 : w15.cell? ⟨T, 1, none⟩ = some (.slice (some ⟨bi, 0, none⟩) ps.length ci) := cell_at HK15.out.box
        have t2 : w15.cell? ⟨T, 2, none⟩ = some (.slice ao t.outs.length co) := cell_at HK15.out.box
        have t3 : w15.cell? ⟨T, 3, none⟩ = some (.int .u32 t.lock) := cell_at HK15.out.box
        dsimp only
        go_wp2_with fail
        refine HF4.out.mono ?_
        rintro e w16 ⟨v16, rfl, he16, hb⟩
        have HE16 := Lib.hid (HE15.out.below hb)
        have HV16 := Lib.hid he16
        have HB16 := Lib.hid (HK15.out.bel.trans (hb.mono HK15.out.bel.size))
        clear hb he16 HF4 t0 t1 t2 t3
        dsimp only
        go_wp2_with fail
        refine (kwakes_any w16 (HG.out.below HB16.out)).mono ?_
        rintro e w17 ⟨rfl, hb⟩
        have HE17 := Lib.hid (HE16.out.below hb)
        have HV17 := Lib.hid (HV16.out.below hb)
        have HB17 := Lib.hid (HB16.out.trans (hb.mono HB16.out.size))
        clear hb
        dsimp only
        go_wp2_with fail
        refine (eris_any v16 _ 8 w17 HV17.out).mono ?_
        rintro e w18 ⟨rfl, rfl⟩
        dsimp only [PEr.is]
        go_wp2_with fail
        refine (erplace_any v16 _ w17 (HG.out.below HB17.out) HV17.out).mono ?_
        rintro e w18 ⟨rfl, hb⟩
        have HE18 := Lib.hid (HE17.out.below hb)
        have HB18 := Lib.hid (HB17.out.trans (hb.mono HB17.out.size))
        clear hb
        dsimp only [PEr.place]
        cases bm
        · go_wp2_with fail
          go_ret
          exact ⟨rfl, HB18.out⟩
        · obtain ⟨br, hbr, h0, h9⟩ := HMI.out rfl
          have hsh := fee_shut HOK.out HX7.out (l := lb) (br := br) (by show lockGet (getP noCn (x7.id, x7.idx) lc).1.script = _; rw [← HCN.out]; exact HLB.out) hbr h0 h9
          have he3 : e3 = .fault q 9 := by
            have := HZ3.out
            rw [hsh] at this
            exact congrArg Prod.snd this
          have HE := Lib.hid (show ErAt w18 v10 (.fault q 9) by rw [← he3]; exact HE18.out)
          clear hbr h0 h9 hsh he3
          go_wp2_with fail
          refine (eris_any v10 _ 9 w18 HE.out).mono ?_
          rintro e w19 ⟨rfl, rfl⟩
          dsimp only [PEr.is]
          go_wp2_with fail
          refine (erplace_any v10 _ w18 (HG.out.below HB18.out) HE.out).mono ?_
          rintro e w20 ⟨rfl, hb⟩
          have HB20 := Lib.hid (HB18.out.trans (hb.mono HB18.out.size))
          clear hb
          dsimp only [PEr.place]
          go_wp2_with fail
          go_ret
          exact ⟨rfl, HB20.out⟩
  · obtain ⟨rfl, rfl⟩ : z1 = 0 ∧ z2 = .num n := by cases h; exact ⟨rfl, rfl⟩
    obtain rfl : v4 = .iface 42 (.int .i64 n) := he4
    have HW := Lib.hid (kwakes_any w4 (HG.out.below HK4.out.bel))
    go_wp2_with fail
    refine HW.out.mono ?_
    rintro e w5 ⟨rfl, hb⟩
    have HB5 := Lib.hid (HK4.out.bel.trans (hb.mono HK4.out.bel.size))
    clear hb
    dsimp only
    go_wp2_with fail
    go_ret
    exact ⟨rfl, HB5.out⟩
  · obtain ⟨rfl, rfl⟩ : z1 = 0 ∧ z2 = .fault a n := by cases h; exact ⟨rfl, rfl⟩
    obtain ⟨fb, rfl, hfa⟩ := he4
    clear hfa
    have HW := Lib.hid (kwakes_any w4 (HG.out.below HK4.out.bel))
    go_wp2_with fail
    refine HW.out.mono ?_
    rintro e w5 ⟨rfl, hb⟩
    have HB5 := Lib.hid (HK4.out.bel.trans (hb.mono HK4.out.bel.size))
    clear hb
    dsimp only
    go_wp2_with fail
    go_ret
    exact ⟨rfl, HB5.out⟩
end Go.Proofs.YtelindgnkpfkiaaGreatDoor
