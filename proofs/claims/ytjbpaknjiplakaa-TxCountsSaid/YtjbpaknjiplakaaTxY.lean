/-
  TxCounts: the walk. Conditions: none.
-/
import Derived.Test.YtjbpaknjiplakaaTxV
import Derived.Test.YtjbpaknjiplakaaReg
namespace Go.Proofs.Ytjbpaknjiplakaa
open Go.RowKit Go.BigFrame
set_option linter.unusedVariables false
set_option linter.unusedSimpArgs false

theorem cntIn_ok {k i : Nat} (hi : i < 4294967296) : OkIn (cntIn k i) := by
  refine ⟨by rw [maxLen_eq]; show (idB 1).size ≤ _; rw [idB_size]; omega, hi, by show 0 < 4294967296; omega, fun s hs => ?_⟩
  have := List.eq_of_mem_replicate hs
  subst this
  rw [maxLen_eq]
  show ByteArray.empty.size ≤ _
  exact Nat.zero_le _
theorem app_in {w0 wr : World} {base k i b9 : Nat} {vi x33 : Value} {ps : List (PIn × Value)} (hps : InsOwn base w0 vi ps) (hn : ps.length ≤ 260) (hbel : Below w0.heap.size w0 wr) (hbase : base ≤ w0.heap.size)
    (hcell : wr.heap[b9]? = some (.cells #[.string (idB 1), .int .u32 i, .int .u32 0, x33] 43 (0, 0))) (h33 : wr.ownsRow w0.heap.size 9 1 x33 k (strCells (List.replicate k ByteArray.empty))) (hi : i < 4294967296) :
    ∃ v' w', (Builtin.append_ #[23, 23] 23 #[vi, .slice (some ⟨b9, 0, none⟩) 1 1]).run Try.prog wr = .ok v' w' ∧ InsOwn base w' v' (ps ++ [(cntIn k i, x33)]) ∧ Below base wr w' := by
  have hps1 := hps.below hbel
  obtain ⟨i0, hi0, hz0, hz1, hz2⟩ := info_parts info_in
  obtain ⟨a, c, hx33, -, -⟩ := ownsRow_shape h33
  have hsrc : Src Try.prog 4 23 (.slice (some ⟨b9, 0, none⟩) 1 1) 1 (inRow (cntIn k i, x33)) wr := by
    refine Src.ofSlice _ Try.underlying23 ⟨b9, 0, none⟩ 1 1 _ rfl (fun j u hj => ?_) (fun u hu => ?_)
    · rw [Addr.add_lit, Nat.zero_add, cell_at hcell]
      have h := hj
      unfold inRow at h
      simpa [cntIn] using h
    · simp only [inRow, List.mem_cons, List.not_mem_nil, or_false] at hu
      rcases hu with rfl | rfl | rfl | rfl
      · rfl
      · rfl
      · rfl
      · rw [hx33]; rfl
  obtain ⟨v', w', hrun, hown, hg, hv⟩ := append_own_src (P := Try.prog) wr base 23 23 23 43 i0 _ 4 56 Try.underlying23 hi0 hz0 hz1 hz2 rfl vi ps.length (insCells ps) hps1.row _ 1 _ hsrc (by rw [maxLen_eq]; omega) (by omega) (Nat.le_trans hbase hbel.size)
  have hlt : ∀ b, x33.ownBlock = some b → w0.heap.size ≤ b ∧ b < wr.heap.size := fun b e => h33.lt b e
  have hvl : ∀ b, vi.ownBlock = some b → b < w0.heap.size := fun b e => (hps.row.lt b e).2
  have hkeep : ∀ b, b < wr.heap.size → vi.ownBlock ≠ some b → w'.heap[b]? = wr.heap[b]? := fun b hb hne => hg.block b hb (fun e => hne e.symm)
  refine ⟨v', w', hrun, ?_, (Below.refl _ _).grown hg (Nat.le_trans hbase hbel.size) (fun k h => (hps.row.lt k h).1)⟩
  refine hps1.snoc (x := cntIn k i) (wv := x33) hown ?_ hkeep ?_ (cntIn_ok hi) ?_
  · rcases hv with h | h
    · exact .inl h
    · exact .inr ⟨_, h, Nat.le_refl _, fun e => by have := (hlt _ e).2; omega⟩
  · have hl : (cntIn k i).wit.length = k := List.length_replicate
    rw [hl]
    exact ownsRow_of_block (ownsRow_base h33 hbase) (fun b e => hkeep b (hlt b e).2 (fun e' => by have := hvl b e'; have := (hlt b e).1; omega))
  · intro b e hh
    have := (hps.lt hh).2
    have := (hlt b e).1
    omega

/-- The transaction that is being built stands in the call's first box. -/
structure CL (w : World) (k i : Nat) (vi v' : Value) (wr : World) : Prop where
  bel : Below w.heap.size w wr
  box : wr.heap[w.heap.size]? = some (.cells #[.int .u32 2, vi, .slice none 0 0, .int .u32 0] 26 (0, 0))
  ins : ∃ ps, InsOwn (w.heap.size + 1) wr v' ps ∧ ps.map (·.1) = (List.range i).map (cntIn k)
theorem mkStr (wr : World) (k : Nat) (hk : k < 7) : ∃ w', (Instr.makeSlice 41 (.int .i64 k) (.int .i64 k)).run Try.prog wr = .ok (.slice (some ⟨wr.heap.size, 0, none⟩) k k) w' ∧
    w'.ownsRow wr.heap.size 9 1 (.slice (some ⟨wr.heap.size, 0, none⟩) k k) k (strCells (List.replicate k ByteArray.empty)) ∧ Below wr.heap.size wr w' := by
  obtain ⟨i0, hi, hz0, hz1, hz2⟩ := info_parts info_str
  obtain ⟨w1, hmk, hown, hg⟩ := run_makeSlice_full (P := Try.prog) wr wr.heap.size 41 9 i0 _ 1 Try.underlying41 hi hz0 hz1 .i64 .i64 k (by omega) (by rw [hz2]; omega) (by rw [maxLen_eq]; omega) (Nat.le_refl _)
  refine ⟨w1, hmk, ?_, (Below.refl _ _).grown hg (Nat.le_refl _) (fun k h => by cases h)⟩
  have e : (madeCells #[.string ByteArray.empty] (k * 1)).toList = strCells (List.replicate k ByteArray.empty) := by
    apply List.ext_getElem
    · simp [madeCells, strCells]
    · intro i h1 h2
      simp [madeCells, strCells, Value.cells, Nat.mod_one]
  first
    | exact e ▸ hown
    | (rw [Nat.mul_one] at e; exact e ▸ hown)
    | simpa [madeCells, strCells] using hown

theorem outs_zeros (m : Nat) : (madeCells #[.int .i64 0, .string ByteArray.empty] (m * 2)).toList = outsCells (List.replicate m ⟨0, ByteArray.empty⟩) := by
  apply List.ext_getElem
  · rw [outsCells_len]; simp [madeCells]
  · intro i h1 h2
    have hi : i < m * 2 := by simpa [madeCells] using h1
    have e2 : (outsCells (List.replicate m ⟨0, ByteArray.empty⟩))[i / 2 * 2 + i % 2]? = (outRow ⟨0, ByteArray.empty⟩)[i % 2]? :=
      flat_at outRow 2 outRow_len _ (i / 2) ⟨0, ByteArray.empty⟩ (by rw [List.getElem?_replicate, if_pos (by omega)]) (i % 2) (Nat.mod_lt _ (by omega))
    rw [show i / 2 * 2 + i % 2 = i by omega, List.getElem?_eq_getElem h2] at e2
    apply Option.some.inj
    rw [e2]
    rcases (show i % 2 = 0 ∨ i % 2 = 1 by omega) with h | h
    · simp [madeCells, outRow, h]
    · simp [madeCells, outRow, h]
theorem mkOuts (wr : World) (m : Nat) (hm : m < 260) : ∃ w', (Instr.makeSlice 24 (.int .i64 m) (.int .i64 m)).run Try.prog wr = .ok (.slice (some ⟨wr.heap.size, 0, none⟩) m m) w' ∧
    OutsOwn wr.heap.size w' (.slice (some ⟨wr.heap.size, 0, none⟩) m m) (List.replicate m ⟨0, ByteArray.empty⟩) ∧ Below wr.heap.size wr w' := by
  obtain ⟨i0, hi, hz0, hz1, hz2⟩ := info_parts info_out
  obtain ⟨w1, hmk, hown, hg⟩ := run_makeSlice_full (P := Try.prog) wr wr.heap.size 24 52 i0 _ 2 Try.underlying24 hi hz0 hz1 .i64 .i64 m (by omega) (by rw [hz2]; omega) (by rw [maxLen_eq]; omega) (Nat.le_refl _)
  have hc : (Value.agg #[.int .i64 0, .string ByteArray.empty]).cells = #[.int .i64 0, .string ByteArray.empty] := rfl
  rw [hc, outs_zeros] at hown
  refine ⟨w1, hmk, ⟨by rw [List.length_replicate]; exact hown, fun x hx => ?_⟩, (Below.refl _ _).grown hg (Nat.le_refl _) (fun k h => by cases h)⟩
  have := List.eq_of_mem_replicate hx
  subst this
  refine ⟨⟨by show (_ : Int) ≤ 0; omega, by show (0 : Int) ≤ _; omega⟩, ?_⟩
  rw [maxLen_eq]
  show ByteArray.empty.size ≤ _
  exact Nat.zero_le _

/-- What is known of each operation's value while one In more is being made. -/
def RC (w0 : World) (X : Nat) (vi : Value) (k i : Nat) : Nat → Fact
  | 0 => .val fun _ => .pointer (some ⟨X, 1, none⟩)
  | 1 => .val fun _ => vi
  | 2 => .val fun _ => .string (idB 1)
  | 3 => .val fun _ => .int .i64 i
  | 4 => .val fun _ => .int .u32 i
  | 5 => .val fun _ => .agg #[.string (idB 1), .int .u32 i]
  | 6 => .val fun _ => .int .i64 k
  | 7 => .own w0.heap.size 9 1 k fun _ => strCells (List.replicate k ByteArray.empty)
  | 8 => .val fun d => .agg #[.string (idB 1), .int .u32 i, .int .u32 0, d.getD 1 undef]
  | 9 => .row 1 fun d => match d.getD 0 undef with | .agg cs => .cells cs 43 (0, 0) | _ => .cells #[] 0 (0, 0)
  | _ => .any
theorem list10 {xs : List Value} (h : xs.length = 10) : ∃ x0 x1 x2 x3 x4 x5 x6 x7 x8 x9, xs = [x0, x1, x2, x3, x4, x5, x6, x7, x8, x9] := by
  match xs, h with
  | [x0, x1, x2, x3, x4, x5, x6, x7, x8, x9], _ => exact ⟨_, _, _, _, _, _, _, _, _, _, rfl⟩
theorem conv_u32i (i : Nat) (hi : i < 4294967296) (w : World) : (convert 3 22 (.int .i64 i)).run Try.prog w = .ok (.int .u32 i) w := by
  have h : (convert 3 22 (.int .i64 i)).run Try.prog w = .ok (.int .u32 (IntKind.u32.wrap i)) w := by kernel_rfl
  rw [h, IntKind.wrap_u32, Int.emod_eq_of_lt (by omega) (by omega)]

set_option maxRecDepth 100000 in
set_option maxHeartbeats 1000000 in
theorem txCounts_walk (a b c : Int) (w : World) (ha : (Lit.int .u16 a).wf = true) (hb : (Lit.int .u16 b).wf = true) (hc : (Lit.int .u16 c).wf = true) : Calls Try.prog 4 #[.int .u16 a, .int .u16 b, .int .u16 c] w (BIs true w) := by
  have ha' := wf_u16 ha
  have hb' := wf_u16 hb
  have hc' := wf_u16 hc
  obtain ⟨n, hn⟩ : ∃ n : Nat, a % 260 = (n : Int) := ⟨(a % 260).toNat, by omega⟩
  obtain ⟨m, hm⟩ : ∃ n : Nat, b % 260 = (n : Int) := ⟨(b % 260).toNat, by omega⟩
  obtain ⟨k, hk⟩ : ∃ n : Nat, c % 7 = (n : Int) := ⟨(c % 7).toNat, by omega⟩
  have hn2 : n < 260 := by omega
  have hm2 : m < 260 := by omega
  have hk2 : k < 7 := by omega
  have HN := Lib.hid hn
  have HM := Lib.hid hm
  have HK := Lib.hid hk
  clear ha hb hc hn hm hk
  go_enter Try.func4, Try.ntmps4
  go_upto_region 3 with fail
  rw [HN.out, HM.out, HK.out]
  clear HN HM HK ha' hb' hc'
  have hcl : CL w k 0 (.slice none 0 0) (.slice none 0 0) (w.alloc (.cells #[.int .u32 2, .slice none 0 0, .slice none 0 0, .int .u32 0] 26)) :=
    ⟨(Below.refl _ _).alloc (Nat.le_refl _) _, heap_alloc_new w _, [], insOwn_nil _ _, rfl⟩
  generalize w.alloc (.cells #[.int .u32 2, .slice none 0 0, .slice none 0 0, .int .u32 0] 26) = w0 at *
  have HCL := Lib.hid hcl
  clear hcl
  go_wp2_with fail
  go_loopg [23] n (fun g i wr => ∃ (q : Nat) (v' : Value), g = n - q ∧ q ≤ n ∧ i = .int .i64 q ∧ CL w k q v' v' wr)
  case atStart => exact ⟨0, _, rfl, by omega, rfl, HCL.out⟩
  case round =>
    clear HCL
    rename World => wq
    obtain ⟨q, vi, hgk, hq, rfl, hcl⟩ := hrel
    have HGK := Lib.hid hgk
    have HCL := Lib.hid hcl
    clear hgk hcl
    by_cases hlt : q < n
    · go_upto_region 6 with fail
      have z1 : wq.cell? ⟨w.heap.size, 1, none⟩ = some vi := cell_at HCL.out.box
      refine wp_region_made (RC wq w.heap.size vi k q) 10 (by kernel_rfl) (by kernel_rfl) (by kernel_rfl) (by kernel_rfl) (by decide) (by kernel_rfl) ?_ ?_
      · intro i o hi ho L xs lo hi' wr hmd hni hpre
        obtain ⟨x0, x1, x2, x3, x4, x5, x6, x7, x8, x9, rfl⟩ : ∃ x0 x1 x2 x3 x4 x5 x6 x7 x8 x9, xs = [x0, x1, x2, x3, x4, x5, x6, x7, x8, x9] := by match xs, hmd.len with | [x0, x1, x2, x3, x4, x5, x6, x7, x8, x9], _ => exact ⟨_, _, _, _, _, _, _, _, _, _, rfl⟩
        match i, ho with
        | 0, ho =>
          obtain rfl := Option.some.inj ho
          have kk := fun l o a => @step_pure Try.prog (RC wq w.heap.size vi k q) l [x0, x1, x2, x3, x4, x5, x6, x7, x8, x9] o a wr 0 (.pointer (some ⟨w.heap.size, 1, none⟩))
          refine kk _ _ _ ?_ ?_
          · kernel_rfl
          · exact rfl
        | 1, ho =>
          obtain rfl := Option.some.inj ho
          have h_0 : x0 = .pointer (some ⟨w.heap.size, 1, none⟩) := hmd.rel 0 (hpre 0 (by kernel_rfl))
          subst h_0
          have z := below_cells hmd.bel _ _ z1
          have kk := fun l o a => @step_pure Try.prog (RC wq w.heap.size vi k q) l [(.pointer (some ⟨w.heap.size, 1, none⟩)), x1, x2, x3, x4, x5, x6, x7, x8, x9] o a wr 1 vi
          refine kk _ _ _ ?_ ?_
          · simp [putAll, execOp, go_sem, z]
          · exact rfl
        | 2, ho =>
          obtain rfl := Option.some.inj ho
          have kk := fun l o a => @step_call Try.prog (RC wq w.heap.size vi k q) l [x0, x1, x2, x3, x4, x5, x6, x7, x8, x9] o a wr 2 _ _ _ (id_any 1 wr)
          refine kk _ _ _ ?_ ?_
          · kernel_rfl
          · exact fun e w' ⟨he, hb⟩ => ⟨_, he, hb, rfl⟩
        | 3, ho =>
          obtain rfl := Option.some.inj ho
          have kk := fun l o a => @step_pure Try.prog (RC wq w.heap.size vi k q) l [x0, x1, x2, x3, x4, x5, x6, x7, x8, x9] o a wr 3 (.int .i64 q)
          refine kk _ _ _ ?_ ?_
          · kernel_rfl
          · exact rfl
        | 4, ho =>
          obtain rfl := Option.some.inj ho
          have h_3 : x3 = .int .i64 q := hmd.rel 3 (hpre 3 (by kernel_rfl))
          subst h_3
          have kk := fun l o a => @step_pure Try.prog (RC wq w.heap.size vi k q) l [x0, x1, x2, (.int .i64 q), x4, x5, x6, x7, x8, x9] o a wr 4 (.int .u32 q)
          refine kk _ _ _ ?_ ?_
          · refine ex_convert (.tmp 29) _ _ ?_ ?_ (conv_u32i q (by omega) wr)
            · rfl
            · kernel_rfl
          · exact rfl
        | 5, ho =>
          obtain rfl := Option.some.inj ho
          have h_2 : x2 = .string (idB 1) := hmd.rel 2 (hpre 2 (by kernel_rfl))
          subst h_2
          have h_4 : x4 = .int .u32 q := hmd.rel 4 (hpre 4 (by kernel_rfl))
          subst h_4
          have kk := fun l o a => @step_pure Try.prog (RC wq w.heap.size vi k q) l [x0, x1, (.string (idB 1)), x3, (.int .u32 q), x5, x6, x7, x8, x9] o a wr 5 (.agg #[.string (idB 1), .int .u32 q])
          refine kk _ _ _ ?_ ?_
          · kernel_rfl
          · exact rfl
        | 6, ho =>
          obtain rfl := Option.some.inj ho
          have kk := fun l o a => @step_pure Try.prog (RC wq w.heap.size vi k q) l [x0, x1, x2, x3, x4, x5, x6, x7, x8, x9] o a wr 6 (.int .i64 k)
          refine kk _ _ _ ?_ ?_
          · kernel_rfl
          · exact rfl
        | 7, ho =>
          obtain rfl := Option.some.inj ho
          have h_6 : x6 = .int .i64 k := hmd.rel 6 (hpre 6 (by kernel_rfl))
          subst h_6
          have hrun := (Classical.choose_spec (mkStr wr k hk2)).1
          have hown := (Classical.choose_spec (mkStr wr k hk2)).2.1
          have hb := (Classical.choose_spec (mkStr wr k hk2)).2.2
          generalize Classical.choose (mkStr wr k hk2) = w' at *
          have kk := fun l o a => @step_run Try.prog (RC wq w.heap.size vi k q) l [x0, x1, x2, x3, x4, x5, (.int .i64 k), x7, x8, x9] o a wr w' 7 (.slice (some ⟨wr.heap.size, 0, none⟩) k k)
          refine kk _ _ _ ?h1 ?h2 ?h3
          · refine ex_make (.tmp 32) _ ?_ ?_ hrun
            · rfl
            · kernel_rfl
          · exact hb
          · exact ⟨fun b hb' => hown.lt b hb', ownsRow_base hown hmd.bel.size⟩
        | 8, ho =>
          obtain rfl := Option.some.inj ho
          have h_5 : x5 = .agg #[.string (idB 1), .int .u32 q] := hmd.rel 5 (hpre 5 (by kernel_rfl))
          subst h_5
          have hs : wr.ownsRow wq.heap.size 9 1 x7 k (strCells (List.replicate k ByteArray.empty)) := (hmd.rel 7 (hpre 7 (by kernel_rfl))).2
          obtain ⟨a7, c7, e7, -, -⟩ := ownsRow_shape hs
          clear hs
          subst e7
          have kk := fun l o a => @step_pure Try.prog (RC wq w.heap.size vi k q) l [x0, x1, x2, x3, x4, (.agg #[.string (idB 1), .int .u32 q]), x6, (.slice a7 k c7), x8, x9] o a wr 8 (.agg #[.string (idB 1), .int .u32 q, .int .u32 0, .slice a7 k c7])
          refine kk _ _ _ ?_ ?_
          · kernel_rfl
          · exact rfl
        | 9, ho =>
          obtain rfl := Option.some.inj ho
          have h_8 : x8 = .agg #[.string (idB 1), .int .u32 q, .int .u32 0, x7] := hmd.rel 8 (hpre 8 (by kernel_rfl))
          subst h_8
          have kk := fun l o a => @step_new Try.prog (RC wq w.heap.size vi k q) l [x0, x1, x2, x3, x4, x5, x6, x7, (.agg #[.string (idB 1), .int .u32 q, .int .u32 0, x7]), x9] o a wr 9 (.slice (some ⟨wr.heap.size, 0, none⟩) 1 1) (.cells #[.string (idB 1), .int .u32 q, .int .u32 0, x7] 43)
          refine kk _ _ _ ?_ ?_
          · kernel_rfl
          · exact ⟨_, Nat.le_refl _, by simp, rfl, heap_alloc_new wr _⟩
        | q + 10, ho => omega
      · intro xs lo hi wr hmd
        obtain ⟨x0, x1, x2, x3, x4, x5, x6, x7, x8, x9, rfl⟩ : ∃ x0 x1 x2 x3 x4 x5 x6 x7 x8 x9, xs = [x0, x1, x2, x3, x4, x5, x6, x7, x8, x9] := by match xs, hmd.len with | [x0, x1, x2, x3, x4, x5, x6, x7, x8, x9], _ => exact ⟨_, _, _, _, _, _, _, _, _, _, rfl⟩
        simp only [putAll]
        change wpList _ _ _ (_ :: _ :: _ :: []) _ _
        have e1 : x1 = vi := hmd.rel 1 (by decide)
        have e8 : x8 = .agg #[.string (idB 1), .int .u32 q, .int .u32 0, x7] := hmd.rel 8 (by decide)
        subst e1
        subst e8
        obtain ⟨b9, hb9, hb9', e9, hcell⟩ : ∃ b, lo 9 ≤ b ∧ b < hi 9 ∧ x9 = .slice (some ⟨b, 0, none⟩) 1 1 ∧ wr.heap[b]? = some (.cells #[.string (idB 1), .int .u32 q, .int .u32 0, x7] 43 (0, 0)) := hmd.rel 9 (by decide)
        subst e9
        obtain ⟨h7b, h33⟩ : (∀ b, x7.ownBlock = some b → lo 7 ≤ b ∧ b < hi 7) ∧ wr.ownsRow wq.heap.size 9 1 x7 k (strCells (List.replicate k ByteArray.empty)) := hmd.rel 7 (by decide)
        obtain ⟨ps, hps, hpm⟩ := HCL.out.ins
        have hpl : ps.length = q := by have := congrArg List.length hpm; simpa using this
        have hX : w.heap.size < wq.heap.size := (Array.getElem?_eq_some_iff.1 HCL.out.box).1
        obtain ⟨v', w', hrun, hins, hbel⟩ := app_in hps (by omega) hmd.bel hX hcell h33 (by omega)
        have hbox : w'.heap[w.heap.size]? = some (.cells #[.int .u32 2, x1, .slice none 0 0, .int .u32 0] 26 (0, 0)) := by
          rw [hbel.block _ (by omega), hmd.bel.block _ hX]
          exact HCL.out.box
        have hcl : CL w k (q + 1) v' v' (w'.setCell ⟨w.heap.size, 1, none⟩ v') := by
          refine ⟨((HCL.out.bel.trans (hmd.bel.mono HCL.out.bel.size)).trans (hbel.mono (by omega))).setCell (p := ⟨w.heap.size, 1, none⟩) (Nat.le_refl _) _, heap_setCell_at hbox, _, hins.store _ _ (fun hh => ?_), ?_⟩
          · have := (hins.lt hh).1
            dsimp only at this
            omega
          · rw [List.map_append, hpm, List.range_succ, List.map_append]
            rfl
        have z2 : w'.cell? ⟨w.heap.size, 1, none⟩ = some x1 := cell_at hbox
        have f2 : w'.frozen? ⟨w.heap.size, 1, none⟩ = false := free_at hbox
        obtain ⟨a6, c6, e6, -, -⟩ := ownsRow_shape hins.row
        obtain ⟨N6, hN6⟩ : ∃ N, N = (ps ++ [(cntIn k q, x7)]).length := ⟨_, rfl⟩
        rw [← hN6] at e6
        clear hN6
        subst e6
        have HC2 := Lib.hid hcl
        have HR := Lib.hid hrun
        clear hmd hcl hrun hbox hins hbel hpm hpl hps hcell hb9 hb9' h7b h33 z1 hX
        refine wpList_append_run ?_ (.tmp 27) (.tmp 35) 23 23 ?_ ?_ ?_ HR.out ?_
        · rfl
        · rfl
        · kernel_rfl
        · kernel_rfl
        go_wp2_with fail
        go_roundg (n - (q + 1))
        case measure => have := HGK.out; omega
        case rel => exact ⟨q + 1, _, rfl, by omega, by go_num, HC2.out⟩
    · obtain rfl : q = n := by omega
      obtain ⟨w', hmk, hout, hb⟩ := mkOuts wq m hm2
      obtain ⟨ps, hps, hpm⟩ := HCL.out.ins
      have hX : w.heap.size < wq.heap.size := (Array.getElem?_eq_some_iff.1 HCL.out.box).1
      have hbox : w'.heap[w.heap.size]? = some (.cells #[.int .u32 2, vi, .slice none 0 0, .int .u32 0] 26 (0, 0)) := by
        rw [hb.block _ hX]
        exact HCL.out.box
      have f2 : w'.frozen? ⟨w.heap.size, 2, none⟩ = false := free_at hbox
      have z2 : w'.cell? ⟨w.heap.size, 2, none⟩ = some (.slice none 0 0) := cell_at hbox
      obtain ⟨O, hO⟩ : ∃ O, O = wq.heap.size := ⟨_, rfl⟩
      have hbox2 : (w'.setCell ⟨w.heap.size, 2, none⟩ (.slice (some ⟨O, 0, none⟩) m m)).heap[w.heap.size]? = some (.cells #[.int .u32 2, vi, .slice (some ⟨O, 0, none⟩) m m, .int .u32 0] 26 (0, 0)) := heap_setCell_at hbox
      have hins : InsOwn (w.heap.size + 1) (w'.setCell ⟨w.heap.size, 2, none⟩ (.slice (some ⟨O, 0, none⟩) m m)) vi ps := (hps.below hb).store _ _ (fun hh => by
        have := (hps.lt hh).1
        dsimp only at this
        omega)
      have hout2 : OutsOwn wq.heap.size (w'.setCell ⟨w.heap.size, 2, none⟩ (.slice (some ⟨O, 0, none⟩) m m)) (.slice (some ⟨O, 0, none⟩) m m) (List.replicate m ⟨0, ByteArray.empty⟩) := by
        rw [← hO] at hout ⊢
        refine hout.kept fun b hb' => heap_setCell_other _ _ _ _ (fun e => ?_)
        have h1 : b = O := by simpa [Value.ownBlock] using hb'.symm
        dsimp only at e
        omega
      have hbel : Below w.heap.size w (w'.setCell ⟨w.heap.size, 2, none⟩ (.slice (some ⟨O, 0, none⟩) m m)) := (HCL.out.bel.trans (hb.mono HCL.out.bel.size)).setCell (p := ⟨w.heap.size, 2, none⟩) (Nat.le_refl _) _
      have htx : TxAt (w'.setCell ⟨w.heap.size, 2, none⟩ (.slice (some ⟨O, 0, none⟩) m m)) (.agg #[.int .u32 2, vi, .slice (some ⟨O, 0, none⟩) m m, .int .u32 0]) (cntTx q m k) := by
        refine ⟨vi, _, rfl, ?_, hout2.sl, by show 2 < 4294967296; omega, by show 0 < 4294967296; omega⟩
        have := hins.sl
        rw [hpm] at this
        exact this
      have HT := Lib.hid htx
      have HB := Lib.hid hbel
      have HX := Lib.hid hbox2
      obtain ⟨ai, ci, rfl, -, -⟩ := ownsRow_shape hps.row
      rw [← hO] at hmk
      have HMK := hmk
      clear hmk hout hb hps hpm hX hbox hbox2 hins hout2 hbel htx HCL HGK hO hlt
      go_upto_region 9 with fail
      clear HMK f2 z2
      obtain ⟨pl, hpl⟩ : ∃ n, n = ps.length := ⟨_, rfl⟩
      rw [← hpl] at HT HX
      clear hpl
      obtain ⟨t, hte⟩ : ∃ t, t = cntTx q m k := ⟨_, rfl⟩
      rw [← hte] at HT
      have HL := Lib.hid (show checkOf t = 0 ↔ (1 ≤ q ∧ q ≤ 256 ∧ 1 ≤ m ∧ m ≤ 256 ∧ k ≤ 4) by rw [hte]; exact cnt_law q m k)
      have HO := Lib.hid (show t.outs.length ≤ 1000 by rw [hte]; show (List.replicate m _).length ≤ 1000; rw [List.length_replicate]; omega)
      clear hte
      generalize w'.setCell ⟨w.heap.size, 2, none⟩ (.slice (some ⟨O, 0, none⟩) m m) = wz at *
      have z0 : wz.cell? ⟨w.heap.size, 0, none⟩ = some (.int .u32 2) := cell_at HX.out
      have z1 : wz.cell? ⟨w.heap.size, 1, none⟩ = some (.slice ai pl ci) := cell_at HX.out
      have z2 : wz.cell? ⟨w.heap.size, 2, none⟩ = some (.slice (some ⟨O, 0, none⟩) m m) := cell_at HX.out
      have z3 : wz.cell? ⟨w.heap.size, 3, none⟩ = some (.int .u32 0) := cell_at HX.out
      clear HX
      by_cases hc : 1 ≤ q ∧ q ≤ 256 ∧ 1 ≤ m ∧ m ≤ 256 ∧ k ≤ 4
      · have hck : checkOf t = 0 := HL.out.2 hc
        have e1 : (1 : Int) ≤ q := by omega
        have e2 : (q : Int) ≤ 256 := by omega
        have e3 : (1 : Int) ≤ m := by omega
        have e4 : (m : Int) ≤ 256 := by omega
        have e5 : (k : Int) ≤ 4 := by omega
        clear HL hc
        obtain ⟨C, hC⟩ : ∃ C : World → Prop, C = fun w' => Below wz.heap.size wz w' := ⟨_, rfl⟩
        have kz0 := kin_cell hC z0
        have kz1 := kin_cell hC z1
        have kz2 := kin_cell hC z2
        have kz3 := kin_cell hC z3
        have QW := Lib.hid (kin_call hC fun y h => wakes_any y)
        have QC := Lib.hid (kin_call hC fun y h => hck ▸ check_any _ t y (HT.out.below h) HO.out)
        have QR := Lib.hid (kin_call hC fun y h => hck ▸ rcheck_any _ t y (HT.out.below h) HO.out)
        clear hck
        have HC := Lib.hid hC
        clear hC
        refine wp_region_kin C (by kernel_rfl) (by kernel_rfl) (by rw [HC.out]; exact ⟨rfl, rfl, rfl, Nat.le_refl _, fun _ _ => rfl⟩) ?_
        intro hne
        repeat (first | (go_big_quiet_step (first | (rename_i y; go_at_call 17; exact Calls.kin (QW.out y) (fun w' h => h)) | (rename_i y; go_at_call 13; exact Calls.kin (QC.out y) (fun w' h => h)) | (rename_i y; go_at_call 14; exact Calls.kin (QR.out y) (fun w' h => h)))) | (quiet_step (first | (rename_i y; go_at_call 17; exact Calls.kin (QW.out y) (fun w' h => h)) | (rename_i y; go_at_call 13; exact Calls.kin (QC.out y) (fun w' h => h)) | (rename_i y; go_at_call 14; exact Calls.kin (QR.out y) (fun w' h => h)))))
        refine wpQuiet_nil ?_
        intro _ hw'
        obtain ⟨kx, hw''⟩ := hw'
        subst hw''
        obtain ⟨wy, hxc⟩ := kx
        rw [HC.out] at hxc
        clear HC hne kz0 kz1 kz2 kz3
        go_wp2_with fail
        go_ret
        exact ⟨rfl, HB.out.trans (hxc.mono HB.out.size)⟩
      · obtain ⟨ck, hck⟩ : ∃ c, c = checkOf t := ⟨_, rfl⟩
        have hne : ¬ ck = 0 := fun h => hc (HL.out.1 (hck ▸ h))
        have HC := Lib.hid hc
        clear hc HL
        by_cases e1 : (1 : Int) ≤ q
        rotate_left
        · clear HC
          obtain ⟨C, hC⟩ : ∃ C : World → Prop, C = fun w' => Below wz.heap.size wz w' := ⟨_, rfl⟩
          have kz0 := kin_cell hC z0
          have kz1 := kin_cell hC z1
          have kz2 := kin_cell hC z2
          have kz3 := kin_cell hC z3
          have QW := Lib.hid (kin_call hC fun y h => wakes_any y)
          have QC := Lib.hid (kin_call hC fun y h => hck ▸ check_any _ t y (HT.out.below h) HO.out)
          have QR := Lib.hid (kin_call hC fun y h => hck ▸ rcheck_any _ t y (HT.out.below h) HO.out)
          clear hck
          have HC := Lib.hid hC
          clear hC
          refine wp_region_kin C (by kernel_rfl) (by kernel_rfl) (by rw [HC.out]; exact ⟨rfl, rfl, rfl, Nat.le_refl _, fun _ _ => rfl⟩) ?_
          intro hne
          repeat (first | (go_big_quiet_step (first | (rename_i y; go_at_call 17; exact Calls.kin (QW.out y) (fun w' h => h)) | (rename_i y; go_at_call 13; exact Calls.kin (QC.out y) (fun w' h => h)) | (rename_i y; go_at_call 14; exact Calls.kin (QR.out y) (fun w' h => h)))) | (quiet_step (first | (rename_i y; go_at_call 17; exact Calls.kin (QW.out y) (fun w' h => h)) | (rename_i y; go_at_call 13; exact Calls.kin (QC.out y) (fun w' h => h)) | (rename_i y; go_at_call 14; exact Calls.kin (QR.out y) (fun w' h => h)))))
          refine wpQuiet_nil ?_
          intro _ hw'
          obtain ⟨kx, hw''⟩ := hw'
          subst hw''
          obtain ⟨wy, hxc⟩ := kx
          rw [HC.out] at hxc
          clear HC hne kz0 kz1 kz2 kz3
          go_wp2_with fail
          go_ret
          exact ⟨ret_bool (a := !(ck == 0)) (by simp [hne]), HB.out.trans (hxc.mono HB.out.size)⟩
        by_cases e2 : (q : Int) ≤ 256
        rotate_left
        · clear HC
          obtain ⟨C, hC⟩ : ∃ C : World → Prop, C = fun w' => Below wz.heap.size wz w' := ⟨_, rfl⟩
          have kz0 := kin_cell hC z0
          have kz1 := kin_cell hC z1
          have kz2 := kin_cell hC z2
          have kz3 := kin_cell hC z3
          have QW := Lib.hid (kin_call hC fun y h => wakes_any y)
          have QC := Lib.hid (kin_call hC fun y h => hck ▸ check_any _ t y (HT.out.below h) HO.out)
          have QR := Lib.hid (kin_call hC fun y h => hck ▸ rcheck_any _ t y (HT.out.below h) HO.out)
          clear hck
          have HC := Lib.hid hC
          clear hC
          refine wp_region_kin C (by kernel_rfl) (by kernel_rfl) (by rw [HC.out]; exact ⟨rfl, rfl, rfl, Nat.le_refl _, fun _ _ => rfl⟩) ?_
          intro hne
          repeat (first | (go_big_quiet_step (first | (rename_i y; go_at_call 17; exact Calls.kin (QW.out y) (fun w' h => h)) | (rename_i y; go_at_call 13; exact Calls.kin (QC.out y) (fun w' h => h)) | (rename_i y; go_at_call 14; exact Calls.kin (QR.out y) (fun w' h => h)))) | (quiet_step (first | (rename_i y; go_at_call 17; exact Calls.kin (QW.out y) (fun w' h => h)) | (rename_i y; go_at_call 13; exact Calls.kin (QC.out y) (fun w' h => h)) | (rename_i y; go_at_call 14; exact Calls.kin (QR.out y) (fun w' h => h)))))
          refine wpQuiet_nil ?_
          intro _ hw'
          obtain ⟨kx, hw''⟩ := hw'
          subst hw''
          obtain ⟨wy, hxc⟩ := kx
          rw [HC.out] at hxc
          clear HC hne kz0 kz1 kz2 kz3
          go_wp2_with fail
          go_ret
          exact ⟨ret_bool (a := !(ck == 0)) (by simp [hne]), HB.out.trans (hxc.mono HB.out.size)⟩
        by_cases e3 : (1 : Int) ≤ m
        rotate_left
        · clear HC
          obtain ⟨C, hC⟩ : ∃ C : World → Prop, C = fun w' => Below wz.heap.size wz w' := ⟨_, rfl⟩
          have kz0 := kin_cell hC z0
          have kz1 := kin_cell hC z1
          have kz2 := kin_cell hC z2
          have kz3 := kin_cell hC z3
          have QW := Lib.hid (kin_call hC fun y h => wakes_any y)
          have QC := Lib.hid (kin_call hC fun y h => hck ▸ check_any _ t y (HT.out.below h) HO.out)
          have QR := Lib.hid (kin_call hC fun y h => hck ▸ rcheck_any _ t y (HT.out.below h) HO.out)
          clear hck
          have HC := Lib.hid hC
          clear hC
          refine wp_region_kin C (by kernel_rfl) (by kernel_rfl) (by rw [HC.out]; exact ⟨rfl, rfl, rfl, Nat.le_refl _, fun _ _ => rfl⟩) ?_
          intro hne
          repeat (first | (go_big_quiet_step (first | (rename_i y; go_at_call 17; exact Calls.kin (QW.out y) (fun w' h => h)) | (rename_i y; go_at_call 13; exact Calls.kin (QC.out y) (fun w' h => h)) | (rename_i y; go_at_call 14; exact Calls.kin (QR.out y) (fun w' h => h)))) | (quiet_step (first | (rename_i y; go_at_call 17; exact Calls.kin (QW.out y) (fun w' h => h)) | (rename_i y; go_at_call 13; exact Calls.kin (QC.out y) (fun w' h => h)) | (rename_i y; go_at_call 14; exact Calls.kin (QR.out y) (fun w' h => h)))))
          refine wpQuiet_nil ?_
          intro _ hw'
          obtain ⟨kx, hw''⟩ := hw'
          subst hw''
          obtain ⟨wy, hxc⟩ := kx
          rw [HC.out] at hxc
          clear HC hne kz0 kz1 kz2 kz3
          go_wp2_with fail
          go_ret
          exact ⟨ret_bool (a := !(ck == 0)) (by simp [hne]), HB.out.trans (hxc.mono HB.out.size)⟩
        by_cases e4 : (m : Int) ≤ 256
        rotate_left
        · clear HC
          obtain ⟨C, hC⟩ : ∃ C : World → Prop, C = fun w' => Below wz.heap.size wz w' := ⟨_, rfl⟩
          have kz0 := kin_cell hC z0
          have kz1 := kin_cell hC z1
          have kz2 := kin_cell hC z2
          have kz3 := kin_cell hC z3
          have QW := Lib.hid (kin_call hC fun y h => wakes_any y)
          have QC := Lib.hid (kin_call hC fun y h => hck ▸ check_any _ t y (HT.out.below h) HO.out)
          have QR := Lib.hid (kin_call hC fun y h => hck ▸ rcheck_any _ t y (HT.out.below h) HO.out)
          clear hck
          have HC := Lib.hid hC
          clear hC
          refine wp_region_kin C (by kernel_rfl) (by kernel_rfl) (by rw [HC.out]; exact ⟨rfl, rfl, rfl, Nat.le_refl _, fun _ _ => rfl⟩) ?_
          intro hne
          repeat (first | (go_big_quiet_step (first | (rename_i y; go_at_call 17; exact Calls.kin (QW.out y) (fun w' h => h)) | (rename_i y; go_at_call 13; exact Calls.kin (QC.out y) (fun w' h => h)) | (rename_i y; go_at_call 14; exact Calls.kin (QR.out y) (fun w' h => h)))) | (quiet_step (first | (rename_i y; go_at_call 17; exact Calls.kin (QW.out y) (fun w' h => h)) | (rename_i y; go_at_call 13; exact Calls.kin (QC.out y) (fun w' h => h)) | (rename_i y; go_at_call 14; exact Calls.kin (QR.out y) (fun w' h => h)))))
          refine wpQuiet_nil ?_
          intro _ hw'
          obtain ⟨kx, hw''⟩ := hw'
          subst hw''
          obtain ⟨wy, hxc⟩ := kx
          rw [HC.out] at hxc
          clear HC hne kz0 kz1 kz2 kz3
          go_wp2_with fail
          go_ret
          exact ⟨ret_bool (a := !(ck == 0)) (by simp [hne]), HB.out.trans (hxc.mono HB.out.size)⟩
        by_cases e5 : (k : Int) ≤ 4
        rotate_left
        · clear HC
          obtain ⟨C, hC⟩ : ∃ C : World → Prop, C = fun w' => Below wz.heap.size wz w' := ⟨_, rfl⟩
          have kz0 := kin_cell hC z0
          have kz1 := kin_cell hC z1
          have kz2 := kin_cell hC z2
          have kz3 := kin_cell hC z3
          have QW := Lib.hid (kin_call hC fun y h => wakes_any y)
          have QC := Lib.hid (kin_call hC fun y h => hck ▸ check_any _ t y (HT.out.below h) HO.out)
          have QR := Lib.hid (kin_call hC fun y h => hck ▸ rcheck_any _ t y (HT.out.below h) HO.out)
          clear hck
          have HC := Lib.hid hC
          clear hC
          refine wp_region_kin C (by kernel_rfl) (by kernel_rfl) (by rw [HC.out]; exact ⟨rfl, rfl, rfl, Nat.le_refl _, fun _ _ => rfl⟩) ?_
          intro hne
          repeat (first | (go_big_quiet_step (first | (rename_i y; go_at_call 17; exact Calls.kin (QW.out y) (fun w' h => h)) | (rename_i y; go_at_call 13; exact Calls.kin (QC.out y) (fun w' h => h)) | (rename_i y; go_at_call 14; exact Calls.kin (QR.out y) (fun w' h => h)))) | (quiet_step (first | (rename_i y; go_at_call 17; exact Calls.kin (QW.out y) (fun w' h => h)) | (rename_i y; go_at_call 13; exact Calls.kin (QC.out y) (fun w' h => h)) | (rename_i y; go_at_call 14; exact Calls.kin (QR.out y) (fun w' h => h)))))
          refine wpQuiet_nil ?_
          intro _ hw'
          obtain ⟨kx, hw''⟩ := hw'
          subst hw''
          obtain ⟨wy, hxc⟩ := kx
          rw [HC.out] at hxc
          clear HC hne kz0 kz1 kz2 kz3
          go_wp2_with fail
          go_ret
          exact ⟨ret_bool (a := !(ck == 0)) (by simp [hne]), HB.out.trans (hxc.mono HB.out.size)⟩
        exact absurd ⟨by omega, by omega, by omega, by omega, by omega⟩ HC.out
end Go.Proofs.Ytjbpaknjiplakaa
