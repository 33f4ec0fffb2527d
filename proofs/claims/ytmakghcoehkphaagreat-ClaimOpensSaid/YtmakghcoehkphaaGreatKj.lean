/-
  The law's own list of claims. Conditions: the claims lie in memory.
-/
import Derived.Test.YtmakghcoehkphaaGreatQ8ClaimBuilds
import Derived.Test.YtmakghcoehkphaaGreatFit
import Derived.BigRegion
namespace Go.Proofs.YtmakghcoehkphaaGreat
open Go.RowKit Go.BigFrame
set_option linter.unusedVariables false
set_option linter.unusedSimpArgs false

theorem capK (s : ByteArray) (m : Nat) (h : m = min s.size 40) : s.extract 0 m = capB 40 s := by
  unfold capB
  split
  · rw [h, show min s.size 40 = 40 by omega]
  · rw [h, show min s.size 40 = s.size by omega]
    apply ByteArray.ext
    simp
theorem capK_len {n : Nat} {s : ByteArray} (h : s.size ≤ maxLen) : (capB n s).size ≤ maxLen := by
  unfold capB
  split
  · simp only [ByteArray.size_extract]; omega
  · exact h
/-- The law's raw data: but for the claims' own slice. -/
structure PRw where
  pid : ByteArray
  pidx : Nat
  val : Int
  tag : Nat
  fee : Int
  odd : Bool
structure PRw.Ok (z : PRw) : Prop where
  pid : z.pid.size ≤ maxLen
  pidx : z.pidx < 4294967296
  val : -9223372036854775808 ≤ z.val ∧ z.val ≤ 9223372036854775807
  tag : z.tag < 65536
  fee : -9223372036854775808 ≤ z.fee ∧ z.fee ≤ 9223372036854775807
def rwCells (v : Value) (z : PRw) : Array Value := #[v, .string z.pid, .int .u32 z.pidx, .int .i64 z.val, .int .u16 z.tag, .int .i64 z.fee, .bool z.odd]
def ofC (odd : Bool) (i : Nat) (c : PCl) : PCl := ⟨if odd then capB 40 c.id else idB i, if odd then c.idx else c.idx % 4, c.val, c.br, c.lock, c.dead⟩
def ofL (odd : Bool) (l : List PCl) : List PCl := l.mapIdx fun i c => ofC odd i c
def ofQ (z : PRw) : ByteArray := if z.odd then capB 40 z.pid else idB 200
def ofI (z : PRw) : Nat := if z.odd then z.pidx else 0
theorem ofC_ok {odd : Bool} {i : Nat} {c : PCl} (h : c.Ok) : (ofC odd i c).Ok := by
  refine ⟨?_, ?_, h.val, h.br, h.lock, h.dead⟩
  · unfold ofC
    dsimp only
    split
    · exact capK_len h.id
    · rw [idB_size]; decide
  · unfold ofC
    dsimp only
    have := h.idx
    split <;> omega
theorem ofL_snoc (odd : Bool) (l : List PCl) (c : PCl) : ofL odd (l ++ [c]) = ofL odd l ++ [ofC odd l.length c] := by simp [ofL]
theorem ofL_len (odd : Bool) (l : List PCl) : (ofL odd l).length = l.length := by simp [ofL]
theorem ofQ_len {z : PRw} (h : z.Ok) : (ofQ z).size ≤ maxLen := by
  unfold ofQ
  split
  · exact capK_len h.pid
  · rw [idB_size]; decide
theorem ofI_lt {z : PRw} (h : z.Ok) : ofI z < 4294967296 := by
  unfold ofI
  have := h.pidx
  split <;> omega
def RC (C : Nat) (x : PCl) (k mi : Nat) : Nat → Fact
  | 0 => .val fun _ => .int .i64 k
  | 1 => .val fun _ => .string (idB k)
  | 2 => .val fun _ => .pointer (some ⟨C, 0, none⟩)
  | 3 => .val fun _ => .pointer (some ⟨C, 1, none⟩)
  | 4 => .val fun _ => .int .u32 x.idx
  | 5 => .val fun _ => .int .u32 mi
  | 6 => .val fun _ => .agg #[.string (idB k), .int .u32 mi]
  | _ => .any
def RD (X : Nat) (z : PRw) : Nat → Fact
  | _ => .any
def OfIs (z : PRw) (l : List PCl) (w : World) (e : Ending) (w' : World) : Prop := ∃ v, e = .returned (.tuple #[v, .agg #[.string (ofQ z), .int .u32 (ofI z)]]) ∧ ClsOwn w.heap.size w' v (ofL z.odd l) ∧ Below w.heap.size w w'
set_option maxRecDepth 100000 in
set_option maxHeartbeats 8000000 in
theorem cof_any (v : Value) (l : List PCl) (z : PRw) (m : Nat) (w : World) (hz : z.Ok) (hv : SlAt rpCl w v l) (hm : m ≤ 1000) : Calls Tryz.prog 9 #[.agg (rwCells v z), .int .i64 m] w (OfIs z (l.take m) w) := by
  have HSL := Lib.hid hv
  obtain ⟨a, c, rfl, hl1, hl2⟩ := hv.shape
  rw [maxLen_eq] at hl2
  obtain ⟨n, hn⟩ : ∃ n, n = l.length := ⟨_, rfl⟩
  rw [← hn] at hl1 HSL ⊢
  have HN := Lib.hid hn
  have HZ := Lib.hid hz
  obtain ⟨od, hod⟩ : ∃ b, b = z.odd := ⟨_, rfl⟩
  have HOD := Lib.hid hod
  obtain ⟨q, hq⟩ : ∃ q, q = min n m := ⟨_, rfl⟩
  have hmin : min (n : Int) (m : Int) = (q : Int) := by omega
  have hqn : q ≤ n := by omega
  have hqm : q ≤ 1000 := by omega
  have HQ := Lib.hid hq
  unfold rwCells
  rw [← hod]
  clear hod hn hv hz hq
  go_enter Tryz.func9, Tryz.ntmps9
  go_upto_region 1 with fail
  obtain ⟨X, hX⟩ : ∃ q, q = w.heap.size := ⟨_, rfl⟩
  have hnews := new2 w X hX (.cells #[.slice a n c, .string z.pid, .int .u32 z.pidx, .int .i64 z.val, .int .u16 z.tag, .int .i64 z.fee, .bool od] 28) (.cells #[.string ⟨#[]⟩, .int .u32 0] 25)
  rw [← hX]
  generalize ((w.alloc (.cells #[.slice a n c, .string z.pid, .int .u32 z.pidx, .int .i64 z.val, .int .u16 z.tag, .int .i64 z.fee, .bool od] 28)).alloc (.cells #[.string ⟨#[]⟩, .int .u32 0] 25)) = w0 at *
  obtain ⟨hz0, hz1, hal⟩ := hnews
  have hX1 : w.heap.size ≤ X := by omega
  have HB0 := Lib.hid hal
  have HZ0 := Lib.hid hz0
  have HZ1 := Lib.hid hz1
  have hl1' := lt_of hz1
  have c0 : w0.cell? ⟨X, 0, none⟩ = some (.slice a n c) := cell_at hz0
  clear hz0 hz1 hal hX
  go_wp2_with fail
  go_loopg [6, 19] q (fun g r i wr => ∃ (k : Nat) (r0 : Value), r = r0 ∧ g = q - k ∧ k ≤ q ∧ i = .int .i64 k ∧ Below w0.heap.size w0 wr ∧ ClsOwn w0.heap.size wr r0 (ofL z.odd (l.take k)))
  case atStart => exact ⟨0, _, rfl, rfl, by omega, rfl, Below.refl _ _, clsOwn_nil _ _⟩
  case round =>
    clear c0
    rename World => wo
    obtain ⟨k, r0, hr0, hgk, hk, rfl, hb, hown⟩ := hrel
    obtain rfl := hr0.symm
    have HGK := Lib.hid hgk
    have HB := Lib.hid hb
    have HOWN := Lib.hid hown
    clear hgk hb hown
    by_cases hlt : k < q
    · have hkn : k < n := by omega
      obtain ⟨b, o, x, rfl, hx, hok, hcl⟩ := (HSL.out.below (HB0.out.trans (HB.out.mono HB0.out.size))).cl hkn
      obtain ⟨d0, d1, d2, d3, d4, d5, d6, d7⟩ := hcl
      have HOK := Lib.hid hok
      have HX := Lib.hid hx
      obtain ⟨m1, hm1⟩ : ∃ m, m = min x.id.size 40 := ⟨_, rfl⟩
      have hi1 : min (x.id.size : Int) 40 = (m1 : Int) := by omega
      have hle1 : m1 ≤ x.id.size := by omega
      have HM1 := Lib.hid (capK _ _ hm1)
      clear hx hok hm1
      go_upto_region 5 with fail
      have hz := heap_alloc_new wo (.cells #[.string x.id, .int .u32 x.idx, .int .i64 x.val, .int .i64 x.br, .int .u16 x.lock.tag, .int .u16 x.lock.delay, .int .u32 x.lock.height, .int .i64 x.dead] 34)
      have hal : Below wo.heap.size wo (wo.alloc (.cells #[.string x.id, .int .u32 x.idx, .int .i64 x.val, .int .i64 x.br, .int .u16 x.lock.tag, .int .u16 x.lock.delay, .int .u32 x.lock.height, .int .i64 x.dead] 34)) := (Below.refl _ _).alloc (Nat.le_refl _) _
      obtain ⟨C, hC⟩ : ∃ q, q = wo.heap.size := ⟨_, rfl⟩
      rw [← hC] at hz ⊢
      generalize wo.alloc (.cells #[.string x.id, .int .u32 x.idx, .int .i64 x.val, .int .i64 x.br, .int .u16 x.lock.tag, .int .u16 x.lock.delay, .int .u32 x.lock.height, .int .i64 x.dead] 34) = wc at *
      have HBC := Lib.hid (HB.out.trans (hal.mono HB.out.size))
      have HCB := Lib.hid hz
      have HOW := Lib.hid HOWN.out
      have HOWN := Lib.hid (HOWN.out.below hal)
      have hCo : w0.heap.size ≤ C := by have := HB.out.size; omega
      have c0 : wc.cell? ⟨C, 0, none⟩ = some (.string x.id) := cell_at hz
      have f0 : wc.frozen? ⟨C, 0, none⟩ = false := free_at hz
      have HNC := Lib.hid (show ∀ b, r0.ownBlock = some b → b ≠ C from fun b e => by
        have h1 := HOW.out.row.lt b e
        omega)
      clear hz hal hC d0 d1 d2 d3 d4 d5 d6 d7 HOW
      go_upto_region 6 with fail
      rw [HM1.out]
      have HCD := Lib.hid (heap_setCell_at (j := 0) (u := .string (capB 40 x.id)) HCB.out)
      have HBD := Lib.hid (HBC.out.setCell (p := ⟨C, 0, none⟩) hCo (.string (capB 40 x.id)))
      have HOD2 := Lib.hid (show ClsOwn w0.heap.size (wc.setCell ⟨C, 0, none⟩ (.string (capB 40 x.id))) r0 (ofL z.odd (l.take k)) from HOWN.out.kept fun b e => Below.heap_setCell _ _ _ _ (HNC.out b e))
      have hCl : C < (wc.setCell ⟨C, 0, none⟩ (.string (capB 40 x.id))).heap.size := lt_of HCD.out
      have HZ0 := Lib.hid ((Below.heap_setCell wc ⟨C, 0, none⟩ (.string (capB 40 x.id)) X (by dsimp only; omega)).trans (HBC.out.block X (by omega) |>.trans HZ0.out))
      generalize wc.setCell ⟨C, 0, none⟩ (.string (capB 40 x.id)) = wd at *
      have z6 : wd.cell? ⟨X, 6, none⟩ = some (.bool od) := cell_at HZ0.out
      clear c0 f0 hi1 hle1 HM1 HBC HOWN HCB
      go_upto_if 37 with fail
      go_cut [] (fun wx => Below w0.heap.size w0 wx ∧ (∀ b, b < wd.heap.size → b ≠ C → wx.heap[b]? = wd.heap[b]?) ∧ wx.heap[C]? = some (.cells (clRow (ofC od k x)).toArray 34 (0, 0)))
      case first =>
        cases od
        · obtain ⟨mi, hmi⟩ : ∃ q, q = x.idx % 4 := ⟨_, rfl⟩
          have c1 : wd.cell? ⟨C, 1, none⟩ = some (.int .u32 x.idx) := cell_at HCD.out
          have hmod : ((x.idx : Int)).tmod 4 = (mi : Int) := by rw [Int.tmod_eq_emod_of_nonneg (by omega), hmi]; rfl
          have HIX := HOK.out.idx
          have HMI := Lib.hid hmi
          clear hmi
          go_upto_region 7 with fail
          refine wp_region_made (RC C x k mi) 7 (by kernel_rfl) (by kernel_rfl) (by kernel_rfl) (by kernel_rfl) (by decide) (by kernel_rfl) ?_ ?_
          · intro i o hi ho L xs lo hi' wr hmd hni hpre
            obtain ⟨x0, x1, x2, x3, x4, x5, x6, rfl⟩ : ∃ x0 x1 x2 x3 x4 x5 x6, xs = [x0, x1, x2, x3, x4, x5, x6] := by match xs, hmd.len with | [x0, x1, x2, x3, x4, x5, x6], _ => exact ⟨_, _, _, _, _, _, _, rfl⟩
            match i, ho with
            | 0, ho =>
              obtain rfl := Option.some.inj ho
              have kk := fun lx ox ax => @step_pure Tryz.prog (RC C x k mi) lx [x0, x1, x2, x3, x4, x5, x6] ox ax wr 0 (.int .i64 k)
              refine kk _ _ _ ?_ ?_
              · kernel_rfl
              · exact rfl
            | 1, ho =>
              obtain rfl := Option.some.inj ho
              have h_0 : x0 = .int .i64 k := hmd.rel 0 (hpre 0 (by kernel_rfl))
              subst h_0
              have kk := fun lx ox ax => @step_call Tryz.prog (RC C x k mi) lx [(.int .i64 k), x1, x2, x3, x4, x5, x6] ox ax wr 1 _ _ _ (id_any k wr)
              refine kk _ _ _ ?_ ?_
              · kernel_rfl
              · exact fun e w' ⟨he, hb⟩ => ⟨_, he, hb, rfl⟩
            | 2, ho =>
              obtain rfl := Option.some.inj ho
              have kk := fun lx ox ax => @step_pure Tryz.prog (RC C x k mi) lx [x0, x1, x2, x3, x4, x5, x6] ox ax wr 2 (.pointer (some ⟨C, 0, none⟩))
              refine kk _ _ _ ?_ ?_
              · kernel_rfl
              · exact rfl
            | 3, ho =>
              obtain rfl := Option.some.inj ho
              have h_2 : x2 = .pointer (some ⟨C, 0, none⟩) := hmd.rel 2 (hpre 2 (by kernel_rfl))
              subst h_2
              have kk := fun lx ox ax => @step_pure Tryz.prog (RC C x k mi) lx [x0, x1, (.pointer (some ⟨C, 0, none⟩)), x3, x4, x5, x6] ox ax wr 3 (.pointer (some ⟨C, 1, none⟩))
              refine kk _ _ _ ?_ ?_
              · kernel_rfl
              · exact rfl
            | 4, ho =>
              obtain rfl := Option.some.inj ho
              have h_3 : x3 = .pointer (some ⟨C, 1, none⟩) := hmd.rel 3 (hpre 3 (by kernel_rfl))
              subst h_3
              have k1 := below_cells hmd.bel _ _ c1
              have kk := fun lx ox ax => @step_pure Tryz.prog (RC C x k mi) lx [x0, x1, x2, (.pointer (some ⟨C, 1, none⟩)), x4, x5, x6] ox ax wr 4 (.int .u32 x.idx)
              refine kk _ _ _ ?_ ?_
              · simp [putAll, execOp, go_sem, k1]
              · exact rfl
            | 5, ho =>
              obtain rfl := Option.some.inj ho
              have h_4 : x4 = .int .u32 x.idx := hmd.rel 4 (hpre 4 (by kernel_rfl))
              subst h_4
              have kk := fun lx ox ax => @step_pure Tryz.prog (RC C x k mi) lx [x0, x1, x2, x3, (.int .u32 x.idx), x5, x6] ox ax wr 5 (.int .u32 mi)
              refine kk _ _ _ ?_ ?_
              · simp [putAll, execOp, go_sem, hmod]
              · exact rfl
            | 6, ho =>
              obtain rfl := Option.some.inj ho
              have h_1 : x1 = .string (idB k) := hmd.rel 1 (hpre 1 (by kernel_rfl))
              subst h_1
              have h_5 : x5 = .int .u32 mi := hmd.rel 5 (hpre 5 (by kernel_rfl))
              subst h_5
              have kk := fun lx ox ax => @step_pure Tryz.prog (RC C x k mi) lx [x0, (.string (idB k)), x2, x3, x4, (.int .u32 mi), x6] ox ax wr 6 (.agg #[.string (idB k), .int .u32 mi])
              refine kk _ _ _ ?_ ?_
              · kernel_rfl
              · exact rfl
            | q + 7, ho => omega
          · intro xs lo hi wr hmd
            obtain ⟨x0, x1, x2, x3, x4, x5, x6, rfl⟩ : ∃ x0 x1 x2 x3 x4 x5 x6, xs = [x0, x1, x2, x3, x4, x5, x6] := by match xs, hmd.len with | [x0, x1, x2, x3, x4, x5, x6], _ => exact ⟨_, _, _, _, _, _, _, rfl⟩
            simp only [putAll]
            change wpList _ _ _ (_ :: _ :: []) _ _
            have h6 : x6 = .agg #[.string (idB k), .int .u32 mi] := hmd.rel 6 (by decide)
            subst h6
            have hr := (hmd.bel.block C hCl).trans HCD.out
            have e0 : wr.cell? ⟨C, 0, none⟩ = some (.string (capB 40 x.id)) := cell_at hr
            have e1 : wr.cell? ⟨C, 1, none⟩ = some (.int .u32 x.idx) := cell_at hr
            have g0 : wr.frozen? ⟨C, 0, none⟩ = false := free_at hr
            have g1 : wr.frozen? ⟨C, 1, none⟩ = false := free_at hr
            have HF := Lib.hid (show Below w0.heap.size w0 ((wr.setCell ⟨C, 0, none⟩ (.string (idB k))).setCell ⟨C, 1, none⟩ (.int .u32 mi)) ∧ (∀ b, b < wd.heap.size → b ≠ C → ((wr.setCell ⟨C, 0, none⟩ (.string (idB k))).setCell ⟨C, 1, none⟩ (.int .u32 mi)).heap[b]? = wd.heap[b]?) ∧ ((wr.setCell ⟨C, 0, none⟩ (.string (idB k))).setCell ⟨C, 1, none⟩ (.int .u32 mi)).heap[C]? = some (.cells (clRow (ofC false k x)).toArray 34 (0, 0)) from
              ⟨((HBD.out.trans (hmd.bel.mono HBD.out.size)).setCell (p := ⟨C, 0, none⟩) hCo _).setCell (p := ⟨C, 1, none⟩) hCo _, fun b hb hne => (Below.heap_setCell _ _ _ _ hne).trans ((Below.heap_setCell _ _ _ _ hne).trans (hmd.bel.block b hb)), by
                rw [heap_setCell_at (heap_setCell_at hr)]; rw [HMI.out]; rfl⟩)
            clear hmd hr
            go_wp2_with fail
            go_meet
            exact HF.out
        · go_wp2_with fail
          go_meet
          exact ⟨HBD.out, fun b _ _ => rfl, HCD.out⟩
      case rest =>
        rename World => w5
        obtain ⟨hb5, hO, hC5⟩ := hcut
        have HO5 := Lib.hid (show ClsOwn w0.heap.size w5 r0 (ofL z.odd (l.take k)) from HOD2.out.kept fun b e => hO b (HOD2.out.row.lt b e).2 (HNC.out b e))
        have HYO := Lib.hid (ofC_ok (odd := od) (i := k) HOK.out)
        have HSN := Lib.hid (show ofL z.odd (l.take (k + 1)) = ofL z.odd (l.take k) ++ [ofC od k x] by
          rw [List.take_add_one, HX.out]
          show ofL z.odd (l.take k ++ [x]) = _
          rw [ofL_snoc, HOD.out, List.length_take, ← HN.out, show min k n = k by omega])
        generalize ofC od k x = y at *
        have hlk : (ofL z.odd (l.take k)).length = k := by rw [ofL_len, List.length_take, ← HN.out]; omega
        have c0 : w5.cell? ⟨C, 0, none⟩ = some (.string y.id) := cell_at hC5
        have c1 : w5.cell? ⟨C, 1, none⟩ = some (.int .u32 y.idx) := cell_at hC5
        have c2 : w5.cell? ⟨C, 2, none⟩ = some (.int .i64 y.val) := cell_at hC5
        have c3 : w5.cell? ⟨C, 3, none⟩ = some (.int .i64 y.br) := cell_at hC5
        have c4 : w5.cell? ⟨C, 4, none⟩ = some (.int .u16 y.lock.tag) := cell_at hC5
        have c5 : w5.cell? ⟨C, 5, none⟩ = some (.int .u16 y.lock.delay) := cell_at hC5
        have c6 : w5.cell? ⟨C, 6, none⟩ = some (.int .u32 y.lock.height) := cell_at hC5
        have c7 : w5.cell? ⟨C, 7, none⟩ = some (.int .i64 y.dead) := cell_at hC5
        obtain ⟨i0, hi, hz0, hz1, hz2⟩ := info_parts info_cl
        obtain ⟨a8, c8, w6, hrun, hown6, hb6, hg6, hv6⟩ := append_one (P := Tryz.prog) Tryz.underlying22 hi hz0 hz1 hz2 rfl HO5.out.row (clRow y).toArray rfl (by simp [clRow, Value.oneCell']) (by rw [maxLen_eq, hlk]; omega) (by rw [hlk]; omega) (by have := hb5.size; omega) (ty := 22)
        have HO6 := Lib.hid (show ClsOwn w0.heap.size w6 (.slice a8 (k + 1) c8) (ofL z.odd (l.take (k + 1))) from by
          rw [HSN.out]
          refine ClsOwn.snoc (w := w5) HO5.out.ok HYO.out ?_
          rw [hlk] at hown6 ⊢
          exact hown6)
        have HB6 := Lib.hid (hb5.trans hb6)
        rw [hlk] at hrun
        obtain ⟨a6, c6', hrs, -, -⟩ := ownsRow_shape HO5.out.row
        rw [hlk] at hrs
        subst hrs
        have HR := Lib.hid hrun
        clear hb5 hO hC5 hrun hown6 hb6 hg6 hv6 hi hz0 hz1 hz2 hlk
        go_wp2_with (at_builtin; refine wpList_append_run rfl (.tmp 46) (.tmp 48) 22 22 rfl rfl rfl HR.out ?_)
        go_roundg (q - (k + 1))
        case measure => have := HGK.out; omega
        case rel => exact ⟨k + 1, _, rfl, rfl, by omega, by go_num, HB6.out, HO6.out⟩
    · obtain rfl : q = k := by omega
      have HLF := Lib.hid (show l.take q = l.take m by
        rw [HQ.out, HN.out]
        by_cases h : l.length ≤ m
        · rw [show min l.length m = l.length by omega, List.take_length, List.take_of_length_le h]
        · rw [show min l.length m = m by omega])
      have HXo := Lib.hid ((HB.out.block X (by omega)).trans HZ0.out)
      have z1 : wo.cell? ⟨X, 1, none⟩ = some (.string z.pid) := cell_at HXo.out
      have z2 : wo.cell? ⟨X, 2, none⟩ = some (.int .u32 z.pidx) := cell_at HXo.out
      have j1 : ∀ o, (wo.alloc o).cell? ⟨X, 1, none⟩ = some (.string z.pid) := fun o => cell_over z1 o
      have j2 : ∀ o, (wo.alloc o).cell? ⟨X, 2, none⟩ = some (.int .u32 z.pidx) := fun o => cell_over z2 o
      obtain ⟨m2, hm2⟩ : ∃ m, m = min z.pid.size 40 := ⟨_, rfl⟩
      have hi2 : min (z.pid.size : Int) 40 = (m2 : Int) := by omega
      have hle2 : m2 ≤ z.pid.size := by omega
      have HM2 := Lib.hid (capK _ _ hm2)
      have hXo := HB.out.size
      clear hm2
      go_upto_region 10 with fail
      go_cut [9] (fun s9 wx => ∃ P, s9 = .pointer (some ⟨P, 0, none⟩) ∧ wo.heap.size ≤ P ∧ Below wo.heap.size wo wx ∧ wx.heap[P]? = some (.cells #[.string (capB 40 z.pid), .int .u32 z.pidx] 25 (0, 0)))
      case first =>
        go_region
        all_goals
          go_wp2_with fail
          go_meet
          rw [HM2.out]
          exact ⟨wo.heap.size, rfl, Nat.le_refl _, ((Below.refl wo.heap.size wo).alloc (Nat.le_refl _) _).drew, heap_alloc_new wo _⟩
      case rest =>
        rename World => w5
        obtain ⟨P, rfl, hP, hb5, hC5⟩ := hcut
        have HO5 := Lib.hid (HOWN.out.below hb5)
        have HB5 := Lib.hid (HB.out.trans (hb5.mono HB.out.size))
        have HZ0 := Lib.hid (stay HXo.out hb5)
        have HZ1 := Lib.hid (stay ((HB.out.block (X + 1) (by omega)).trans HZ1.out) hb5)
        have z6 : w5.cell? ⟨X, 6, none⟩ = some (.bool od) := cell_at HZ0.out
        have hPl := lt_of hC5
        have HC5 := Lib.hid hC5
        have HNP := Lib.hid (show ∀ b, r0.ownBlock = some b → b ≠ P from fun b e => by
          have h1 := (HOWN.out.row.lt b e).2
          omega)
        have hPX : X + 1 < P := by omega
        clear hb5 hC5 z1 z2 j1 j2 hi2 hle2 HM2 HOWN HXo
        go_upto_if 66 with fail
        go_cut [] (fun wx => Below w0.heap.size w0 wx ∧ True ∧ (∀ b, b < w5.heap.size → b ≠ P → wx.heap[b]? = w5.heap[b]?) ∧ wx.heap[P]? = some (.cells #[.string (ofQ z), .int .u32 (ofI z)] 25 (0, 0)))
        case first =>
          cases od
          · have HI := Lib.hid (show ofQ z = idB 200 by unfold ofQ; rw [← HOD.out]; rfl)
            have HJ := Lib.hid (show ofI z = 0 by unfold ofI; rw [← HOD.out]; rfl)
            go_wp2_with fail
            refine (id_any 200 w5).mono ?_
            rintro e w6 ⟨rfl, hb⟩
            have hr := stay HC5.out hb
            have e0 : w6.cell? ⟨P, 0, none⟩ = some (.string (capB 40 z.pid)) := cell_at hr
            have e1 : w6.cell? ⟨P, 1, none⟩ = some (.int .u32 z.pidx) := cell_at hr
            have g0 : w6.frozen? ⟨P, 0, none⟩ = false := free_at hr
            have g1 : w6.frozen? ⟨P, 1, none⟩ = false := free_at hr
            have hP0 : w0.heap.size ≤ P := by omega
            have HF := Lib.hid (show Below w0.heap.size w0 ((w6.setCell ⟨P, 0, none⟩ (.string (idB 200))).setCell ⟨P, 1, none⟩ (.int .u32 0)) ∧ True ∧ (∀ b, b < w5.heap.size → b ≠ P → ((w6.setCell ⟨P, 0, none⟩ (.string (idB 200))).setCell ⟨P, 1, none⟩ (.int .u32 0)).heap[b]? = w5.heap[b]?) ∧ ((w6.setCell ⟨P, 0, none⟩ (.string (idB 200))).setCell ⟨P, 1, none⟩ (.int .u32 0)).heap[P]? = some (.cells #[.string (ofQ z), .int .u32 (ofI z)] 25 (0, 0)) from
              ⟨((HB5.out.trans (hb.mono HB5.out.size)).setCell (p := ⟨P, 0, none⟩) hP0 _).setCell (p := ⟨P, 1, none⟩) hP0 _, trivial, fun b hb' hne => (Below.heap_setCell _ _ _ _ hne).trans ((Below.heap_setCell _ _ _ _ hne).trans (hb.block b hb')), by
                rw [heap_setCell_at (heap_setCell_at hr), HI.out, HJ.out]; rfl⟩)
            clear hb hr
            go_wp2_with fail
            go_meet
            exact ⟨HF.out.1, trivial, HF.out.2.2.1, HF.out.2.2.2⟩
          · have HI := Lib.hid (show ofQ z = capB 40 z.pid by unfold ofQ; rw [← HOD.out]; rfl)
            have HJ := Lib.hid (show ofI z = z.pidx by unfold ofI; rw [← HOD.out]; rfl)
            go_wp2_with fail
            go_meet
            rw [HI.out, HJ.out]
            exact ⟨HB5.out, trivial, fun b _ _ => rfl, HC5.out⟩
        case rest =>
          rename World => w6
          obtain ⟨hb6, -, hO, hC6⟩ := hcut
          have HO6 := Lib.hid (show ClsOwn w0.heap.size w6 r0 (ofL z.odd (l.take m)) from HLF.out ▸ (HO5.out.kept fun b e => hO b (HO5.out.row.lt b e).2 (HNP.out b e)))
          have hr := (hO (X + 1) (by omega) (by omega)).trans HZ1.out
          have p0 : w6.cell? ⟨P, 0, none⟩ = some (.string (ofQ z)) := cell_at hC6
          have p1 : w6.cell? ⟨P, 1, none⟩ = some (.int .u32 (ofI z)) := cell_at hC6
          have r0' : w6.cell? ⟨X + 1, 0, none⟩ = some (.string ⟨#[]⟩) := cell_at hr
          have r1' : w6.cell? ⟨X + 1, 1, none⟩ = some (.int .u32 0) := cell_at hr
          have g0 : w6.frozen? ⟨X + 1, 0, none⟩ = false := free_at hr
          have g1 : w6.frozen? ⟨X + 1, 1, none⟩ = false := free_at hr
          obtain ⟨sq, hsq⟩ : ∃ q, q = ofQ z := ⟨_, rfl⟩
          obtain ⟨si, hsi⟩ : ∃ q, q = ofI z := ⟨_, rfl⟩
          rw [← hsq] at p0
          rw [← hsi] at p1
          have HSQ := Lib.hid hsq
          have HSI := Lib.hid hsi
          have HF := Lib.hid (show ClsOwn w.heap.size ((w6.setCell ⟨X + 1, 0, none⟩ (.string sq)).setCell ⟨X + 1, 1, none⟩ (.int .u32 si)).drew r0 (ofL z.odd (l.take m)) ∧ Below w.heap.size w ((w6.setCell ⟨X + 1, 0, none⟩ (.string sq)).setCell ⟨X + 1, 1, none⟩ (.int .u32 si)).drew from by
            have hbw := HB0.out.trans (hb6.mono HB0.out.size)
            refine ⟨((HO6.out.kept (w' := (w6.setCell ⟨X + 1, 0, none⟩ (.string sq)).setCell ⟨X + 1, 1, none⟩ (.int .u32 si)) fun b e => ?_).base HB0.out.size).kept fun _ _ => rfl, ((hbw.setCell (p := ⟨X + 1, 0, none⟩) (show w.heap.size ≤ X + 1 by omega) _).setCell (p := ⟨X + 1, 1, none⟩) (show w.heap.size ≤ X + 1 by omega) _).drew⟩
            have hne : b ≠ X + 1 := by
              have := (HO6.out.row.lt b e).1
              omega
            exact (Below.heap_setCell _ _ _ _ hne).trans (Below.heap_setCell _ _ _ _ hne))
          clear hb6 hO hC6 hr hsq hsi
          go_upto_region 13 with fail
          go_region
          go_wp2_with fail
          exact bodyPost_ret (v := .tuple #[r0, .agg #[.string sq, .int .u32 si]]) (by simp [results, Tryz.results9, go_sem, r0', r1']) rfl ⟨r0, by rw [HSQ.out, HSI.out], HF.out.1, HF.out.2⟩
end Go.Proofs.YtmakghcoehkphaaGreat
