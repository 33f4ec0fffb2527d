/-
  claim.made. Conditions: the claims lie in memory, their branches may be.
-/
import Derived.Test.YtmakghcoehkphaaGreatQ10ClaimBuilds
namespace Go.Proofs.YtmakghcoehkphaaGreat
open Go.RowKit Go.BigFrame
set_option linter.unusedVariables false
set_option linter.unusedSimpArgs false

theorem drew_bel (w : World) : Below w.heap.size w w.drew := ⟨rfl, rfl, rfl, Nat.le_refl _, fun _ _ => rfl⟩
def CMadeIs (t : PTx) (x : POut) (w : World) (e : Ending) (w' : World) : Prop := ∃ ia c q, e = .returned (.agg #[.int .u32 2, .slice ia t.ins.length c, .slice (some ⟨q, 0, none⟩) 1 1, .int .u32 t.lock]) ∧ w.heap.size ≤ q ∧ w'.heap[q]? = some (.cells #[.int .i64 x.val, .string x.script] 38 (0, 0)) ∧
  TxNew w.heap.size w' (.agg #[.int .u32 2, .slice ia t.ins.length c, .slice (some ⟨q, 0, none⟩) 1 1, .int .u32 t.lock]) t ∧ Below w.heap.size w w'
theorem insOf_ok {tag : Nat} {a : PCl} (h : a.Ok) (n : Nat) : OkIn ⟨a.id, a.idx, seqOf a.lock.delay, [signW n tag]⟩ := ⟨h.id, h.idx, seqOf_lt h.lock.delay, fun s hs => by rw [List.mem_singleton.1 hs, signW_size]; decide⟩
theorem MI.aside {w wr : World} {T hi : Nat} {vi vo : Value} {ps : List (PIn × Value)} (h : MI w T hi vi vo ps wr) {p : Addr} (u : Value) (h1 : w.heap.size ≤ p.block) (h2 : p.block < T) : MI w T hi vi vo ps (wr.setCell p u) :=
  ⟨h.bel.setCell h1 _, h.low, (Below.heap_setCell _ _ _ _ (by omega)).trans h.box, h.ins.store p u fun e => by have := (h.ins.lt e).1; omega⟩
/-- It lies there, wherever its blocks stay. -/
theorem MI.new {w wr : World} {T hi : Nat} {ia : Option Addr} {n c q : Nat} {vo : Value} {ps : List (PIn × Value)} {t : PTx} {x : POut} (h : MI w T hi (.slice ia n c) vo ps wr) (hq : w.heap.size ≤ q) (hg : wr.heap[q]? = some (.cells #[.int .i64 x.val, .string x.script] 38 (0, 0))) (hx : OkOut x)
    (ht : t = ⟨2, ps.map (·.1), [x], hi⟩) (hhi : hi < 4294967296) : TxNew w.heap.size wr (.agg #[.int .u32 2, .slice ia n c, .slice (some ⟨q, 0, none⟩) 1 1, .int .u32 hi]) t := fun w' hw' => by
  subst ht
  have hlow := h.low
  refine ⟨_, _, rfl, (h.ins.kept fun b hb => hw' b (by have := (h.ins.lt hb).1; omega) (h.ins.lt hb).2).sl, ⟨_, 1, rfl, Nat.le_refl _, by decide, fun i y hi => ?_⟩, by show 2 < _; decide, hhi⟩
  have hg' := (hw' q hq (lt_of hg)).trans hg
  match i, hi with
  | 0, hi =>
    obtain rfl := Option.some.inj hi
    refine ⟨q, 0, [.int .i64 x.val, .string x.script], rfl, rfl, fun j u hj => ?_, rfl, hx.1, hx.2⟩
    rw [cell_at hg']
    match j, hj with
    | 0, hj => exact hj
    | 1, hj => exact hj
  | k + 1, hi => simp at hi
def RA (T C N : Nat) (ia : Option Addr) (k ic : Nat) (x : PCl) (bn tag : Nat) : Nat → Fact
  | 0 => .val fun _ => .pointer (some ⟨T, 1, none⟩)
  | 1 => .val fun _ => .slice ia k ic
  | 2 => .val fun _ => .pointer (some ⟨C, 0, none⟩)
  | 3 => .val fun _ => .agg #[.string x.id, .int .u32 x.idx]
  | 4 => .val fun _ => .pointer (some ⟨C, 4, none⟩)
  | 5 => .val fun _ => .agg #[.int .u16 x.lock.tag, .int .u16 x.lock.delay, .int .u32 x.lock.height]
  | 6 => .val fun _ => .int .u32 (seqOf x.lock.delay)
  | 7 => .val fun _ => .pointer (some ⟨C, 3, none⟩)
  | 8 => .val fun _ => .int .i64 bn
  | 9 => .val fun _ => .int .u16 tag
  | 10 => .inV x.id x.idx (seqOf x.lock.delay) (signW bn tag)
  | 11 => .inR N x.id x.idx (seqOf x.lock.delay) (signW bn tag)
  | _ => .any
def RB (T N : Nat) (ia : Option Addr) (k ic : Nat) (cid : ByteArray) (ci tag : Nat) : Nat → Fact
  | 0 => .val fun _ => .pointer (some ⟨T, 1, none⟩)
  | 1 => .val fun _ => .slice ia k ic
  | 2 => .val fun _ => .agg #[.string cid, .int .u32 ci]
  | 3 => .val fun _ => .int .u16 tag
  | 4 => .inV cid ci 4294967293 (signW 0 tag)
  | 5 => .inR N cid ci 4294967293 (signW 0 tag)
  | _ => .any
set_option maxRecDepth 100000 in
set_option maxHeartbeats 8000000 in
theorem cmade_any (v : Value) (l : List PCl) (cid : ByteArray) (ci tag : Nat) (val : Int) (w : World) (hv : SlAt rpCl w v l) (hlen : l.length ≤ 40) (hbr : ∀ a ∈ l, 0 ≤ a.br ∧ a.br < 3) (hc : cid.size ≤ maxLen) (hci : ci < 4294967296) (ht : tag < 65536) (hval : -9223372036854775808 ≤ val ∧ val ≤ 9223372036854775807) :
    Calls Tryz.prog 36 #[v, .agg #[.string cid, .int .u32 ci], .int .u16 tag, .int .i64 val] w (CMadeIs (claimTx l cid ci tag val) ⟨val, scrT tag⟩ w) := by
  have HSL := Lib.hid hv
  obtain ⟨a, c, rfl, hl1, hl2⟩ := hv.shape
  rw [maxLen_eq] at hl2
  obtain ⟨n, hn⟩ : ∃ n, n = l.length := ⟨_, rfl⟩
  rw [← hn] at hl1 HSL hlen ⊢
  have HN := Lib.hid hn
  have HLEN := Lib.hid hlen
  have HBR := Lib.hid hbr
  have HHI := Lib.hid (fun k => high_le (l.take k) 4294967295 (fun b hb => by
    obtain ⟨i, hi⟩ := List.mem_iff_getElem?.1 (List.mem_of_mem_take hb)
    obtain ⟨_, _, y, _, hy, hok, _⟩ := HSL.out.cl (by rw [HN.out]; exact (List.getElem?_eq_some_iff.1 hi).1)
    rw [hi] at hy
    obtain rfl := Option.some.inj hy
    have := hok.lock.height
    omega))
  have HCI := Lib.hid (show OkIn ⟨cid, ci, 4294967293, [signW 0 tag]⟩ from ⟨hc, hci, by show (4294967293 : Nat) < _; omega, fun s hs => by rw [List.mem_singleton.1 hs, signW_size]; decide⟩)
  have HVAL := Lib.hid hval
  clear hn hv hlen hbr hc hci hval
  go_enter Tryz.func36, Tryz.ntmps36
  go_upto_region 1 with fail
  obtain ⟨X, hX⟩ : ∃ q, q = w.heap.size := ⟨_, rfl⟩
  have hnews := new2 w X hX (.cells #[.string cid, .int .u32 ci] 25) (.cells #[.int .u32 0, .slice none 0 0, .slice none 0 0, .int .u32 0] 44)
  rw [← hX]
  generalize ((w.alloc (.cells #[.string cid, .int .u32 ci] 25)).alloc (.cells #[.int .u32 0, .slice none 0 0, .slice none 0 0, .int .u32 0] 44)) = w0 at *
  obtain ⟨hz0, hz1, hal⟩ := hnews
  have hX1 : w.heap.size ≤ X := by omega
  have HB0 := Lib.hid hal
  have HZ0 := Lib.hid hz0
  have HZ1 := Lib.hid hz1
  have hl1' := lt_of hz1
  clear hz0 hz1 hal hX
  go_upto_region 2 with fail
  have hz := heap_alloc_new w0 (.cells #[.int .u32 2, .slice none 0 0, .slice none 0 0, .int .u32 0] 44)
  have hal : Below w0.heap.size w0 (w0.alloc (.cells #[.int .u32 2, .slice none 0 0, .slice none 0 0, .int .u32 0] 44)) := (Below.refl _ _).alloc (Nat.le_refl _) _
  obtain ⟨T, hT⟩ : ∃ q, q = w0.heap.size := ⟨_, rfl⟩
  rw [← hT] at hz ⊢
  generalize w0.alloc (.cells #[.int .u32 2, .slice none 0 0, .slice none 0 0, .int .u32 0] 44) = w1 at *
  have hTX : X + 1 < T := by omega
  have HZ0 := Lib.hid (stay HZ0.out hal)
  have HZ1 := Lib.hid (stay HZ1.out hal)
  have HMI := Lib.hid (show MI w T 0 (.slice none 0 0) (.slice none 0 0) [] w1 from ⟨HB0.out.trans (hal.mono HB0.out.size), by omega, hz, insOwn_nil _ _⟩)
  clear hz hal hT HB0
  go_wp2_with fail
  go_loopg [17] n (fun g i wr => ∃ (k : Nat) (ia : Option Addr) (ic : Nat) (ps : List (PIn × Value)), g = n - k ∧ k ≤ n ∧ i = .int .i64 k ∧ MI w T (highOf (l.take k)) (.slice ia k ic) (.slice none 0 0) ps wr ∧ ps.map (·.1) = insOf tag (l.take k) ∧ ps.length = k ∧
    wr.heap[X]? = some (.cells #[.string cid, .int .u32 ci] 25 (0, 0)) ∧ wr.heap[X + 1]? = some (.cells #[.int .u32 0, .slice none 0 0, .slice none 0 0, .int .u32 0] 44 (0, 0)))
  case atStart => exact ⟨0, none, 0, [], rfl, by omega, rfl, HMI.out, rfl, rfl, HZ0.out, HZ1.out⟩
  case round =>
    clear HMI HZ0 HZ1
    rename World => wo
    obtain ⟨k, ia, ic, ps, hgk, hk, rfl, hmi, hps, hpl, hz0, hz1⟩ := hrel
    have HGK := Lib.hid hgk
    have HMI := Lib.hid hmi
    have HPS := Lib.hid hps
    have HPL := Lib.hid hpl
    have HZ0 := Lib.hid hz0
    have HZ1 := Lib.hid hz1
    have hTo := hmi.lt
    clear hgk hmi hps hpl hz0 hz1
    by_cases hlt : k < n
    · obtain ⟨b, o, x, rfl, hx, hok, hcl⟩ := (HSL.out.below HMI.out.bel).cl hlt
      obtain ⟨d0, d1, d2, d3, d4, d5, d6, d7⟩ := hcl
      obtain ⟨bn, hbn⟩ : ∃ bn : Nat, x.br = bn := ⟨x.br.toNat, by have := HBR.out x (List.mem_of_getElem? hx); omega⟩
      have hbn3 : bn < 3 := by have := HBR.out x (List.mem_of_getElem? hx); omega
      have hdl := hok.lock.delay
      have HOI := Lib.hid (insOf_ok (tag := tag) hok bn)
      have HIN := Lib.hid (show insOf tag (l.take (k + 1)) = insOf tag (l.take k) ++ [⟨x.id, x.idx, seqOf x.lock.delay, [signW bn tag]⟩] by
        rw [List.take_add_one, hx]
        show insOf tag (l.take k ++ [x]) = _
        rw [insOf_snoc, show x.br.toNat = bn by omega])
      have HHG := Lib.hid (show highOf (l.take (k + 1)) = max (highOf (l.take k)) x.lock.height by
        rw [List.take_add_one, hx]
        exact high_snoc _ _)
      rw [hbn] at d3
      clear hx hok hbn
      go_upto_region 5 with fail
      have hz := heap_alloc_new wo (.cells #[.string x.id, .int .u32 x.idx, .int .i64 x.val, .int .i64 bn, .int .u16 x.lock.tag, .int .u16 x.lock.delay, .int .u32 x.lock.height, .int .i64 x.dead] 34)
      have hal : Below wo.heap.size wo (wo.alloc (.cells #[.string x.id, .int .u32 x.idx, .int .i64 x.val, .int .i64 bn, .int .u16 x.lock.tag, .int .u16 x.lock.delay, .int .u32 x.lock.height, .int .i64 x.dead] 34)) := (Below.refl _ _).alloc (Nat.le_refl _) _
      obtain ⟨C, hC⟩ : ∃ q, q = wo.heap.size := ⟨_, rfl⟩
      rw [← hC] at hz ⊢
      generalize wo.alloc (.cells #[.string x.id, .int .u32 x.idx, .int .i64 x.val, .int .i64 bn, .int .u16 x.lock.tag, .int .u16 x.lock.delay, .int .u32 x.lock.height, .int .i64 x.dead] 34) = wc at *
      have HMO := Lib.hid HMI.out
      have HMI := Lib.hid (HMI.out.below hal)
      have HZ0 := Lib.hid (stay HZ0.out hal)
      have HZ1 := Lib.hid (stay HZ1.out hal)
      have HCB := Lib.hid hz
      have c0 : wc.cell? ⟨C, 0, none⟩ = some (.string x.id) := cell_at hz
      have c1 : wc.cell? ⟨C, 1, none⟩ = some (.int .u32 x.idx) := cell_at hz
      have c3 : wc.cell? ⟨C, 3, none⟩ = some (.int .i64 bn) := cell_at hz
      have c4 : wc.cell? ⟨C, 4, none⟩ = some (.int .u16 x.lock.tag) := cell_at hz
      have c5 : wc.cell? ⟨C, 5, none⟩ = some (.int .u16 x.lock.delay) := cell_at hz
      have c6 : wc.cell? ⟨C, 6, none⟩ = some (.int .u32 x.lock.height) := cell_at hz
      have t1 : wc.cell? ⟨T, 1, none⟩ = some (.slice ia k ic) := cell_at HMI.out.box
      have hCl := lt_of hz
      have hXo : X + 1 < wo.heap.size := by omega
      have HNC := Lib.hid (show ∀ b, b = C ∨ b ≤ X + 1 → (Value.slice ia k ic).ownBlock ≠ some b from fun b hb e => by
        have h1 := HMO.out.ins.row.lt b e
        omega)
      have hCT : C ≠ T := by omega
      have hXC : X + 1 < C := by omega
      clear hz hal hC HMO d0 d1 d2 d3 d4 d5 d6 d7
      go_cut [] (fun wx => ∃ a' c' p, MI w T (highOf (l.take k)) (.slice a' (k + 1) c') (.slice none 0 0) (ps ++ [(⟨x.id, x.idx, seqOf x.lock.delay, [signW bn tag]⟩, .slice (some ⟨p, 0, none⟩) 1 1)]) wx ∧ ∀ b, b = C ∨ b ≤ X + 1 → wx.heap[b]? = wc.heap[b]?)
      case first =>
        refine wp_region_made (RA T C wc.heap.size ia k ic x bn tag) 12 (by kernel_rfl) (by kernel_rfl) (by kernel_rfl) (by kernel_rfl) (by decide) (by kernel_rfl) ?_ ?_
        · intro i o hi ho L xs lo hi' wr hmd hni hpre
          obtain ⟨x0, x1, x2, x3, x4, x5, x6, x7, x8, x9, x10, x11, rfl⟩ : ∃ x0 x1 x2 x3 x4 x5 x6 x7 x8 x9 x10 x11, xs = [x0, x1, x2, x3, x4, x5, x6, x7, x8, x9, x10, x11] := by match xs, hmd.len with | [x0, x1, x2, x3, x4, x5, x6, x7, x8, x9, x10, x11], _ => exact ⟨_, _, _, _, _, _, _, _, _, _, _, _, rfl⟩
          match i, ho with
          | 0, ho =>
            obtain rfl := Option.some.inj ho
            have kk := fun lx ox ax => @step_pure Tryz.prog (RA T C wc.heap.size ia k ic x bn tag) lx [x0, x1, x2, x3, x4, x5, x6, x7, x8, x9, x10, x11] ox ax wr 0 (.pointer (some ⟨T, 1, none⟩))
            refine kk _ _ _ ?_ ?_
            · kernel_rfl
            · exact rfl
          | 1, ho =>
            obtain rfl := Option.some.inj ho
            have h_0 : x0 = .pointer (some ⟨T, 1, none⟩) := hmd.rel 0 (hpre 0 (by kernel_rfl))
            subst h_0
            have k1 := below_cells hmd.bel _ _ t1
            have kk := fun lx ox ax => @step_pure Tryz.prog (RA T C wc.heap.size ia k ic x bn tag) lx [(.pointer (some ⟨T, 1, none⟩)), x1, x2, x3, x4, x5, x6, x7, x8, x9, x10, x11] ox ax wr 1 (.slice ia k ic)
            refine kk _ _ _ ?_ ?_
            · simp [putAll, execOp, go_sem, k1]
            · exact rfl
          | 2, ho =>
            obtain rfl := Option.some.inj ho
            have kk := fun lx ox ax => @step_pure Tryz.prog (RA T C wc.heap.size ia k ic x bn tag) lx [x0, x1, x2, x3, x4, x5, x6, x7, x8, x9, x10, x11] ox ax wr 2 (.pointer (some ⟨C, 0, none⟩))
            refine kk _ _ _ ?_ ?_
            · kernel_rfl
            · exact rfl
          | 3, ho =>
            obtain rfl := Option.some.inj ho
            have h_2 : x2 = .pointer (some ⟨C, 0, none⟩) := hmd.rel 2 (hpre 2 (by kernel_rfl))
            subst h_2
            have k0 := below_cells hmd.bel _ _ c0
            have k1 := below_cells hmd.bel _ _ c1
            have kk := fun lx ox ax => @step_pure Tryz.prog (RA T C wc.heap.size ia k ic x bn tag) lx [x0, x1, (.pointer (some ⟨C, 0, none⟩)), x3, x4, x5, x6, x7, x8, x9, x10, x11] ox ax wr 3 (.agg #[.string x.id, .int .u32 x.idx])
            refine kk _ _ _ ?_ ?_
            · simp [putAll, execOp, go_sem, k0, k1]
            · exact rfl
          | 4, ho =>
            obtain rfl := Option.some.inj ho
            have kk := fun lx ox ax => @step_pure Tryz.prog (RA T C wc.heap.size ia k ic x bn tag) lx [x0, x1, x2, x3, x4, x5, x6, x7, x8, x9, x10, x11] ox ax wr 4 (.pointer (some ⟨C, 4, none⟩))
            refine kk _ _ _ ?_ ?_
            · kernel_rfl
            · exact rfl
          | 5, ho =>
            obtain rfl := Option.some.inj ho
            have h_4 : x4 = .pointer (some ⟨C, 4, none⟩) := hmd.rel 4 (hpre 4 (by kernel_rfl))
            subst h_4
            have k4 := below_cells hmd.bel _ _ c4
            have k5 := below_cells hmd.bel _ _ c5
            have k6 := below_cells hmd.bel _ _ c6
            have kk := fun lx ox ax => @step_pure Tryz.prog (RA T C wc.heap.size ia k ic x bn tag) lx [x0, x1, x2, x3, (.pointer (some ⟨C, 4, none⟩)), x5, x6, x7, x8, x9, x10, x11] ox ax wr 5 (.agg #[.int .u16 x.lock.tag, .int .u16 x.lock.delay, .int .u32 x.lock.height])
            refine kk _ _ _ ?_ ?_
            · simp [putAll, execOp, go_sem, k4, k5, k6]
            · exact rfl
          | 6, ho =>
            obtain rfl := Option.some.inj ho
            have h_5 : x5 = .agg #[.int .u16 x.lock.tag, .int .u16 x.lock.delay, .int .u32 x.lock.height] := hmd.rel 5 (hpre 5 (by kernel_rfl))
            subst h_5
            have kk := fun lx ox ax => @step_call Tryz.prog (RA T C wc.heap.size ia k ic x bn tag) lx [x0, x1, x2, x3, x4, (.agg #[.int .u16 x.lock.tag, .int .u16 x.lock.delay, .int .u32 x.lock.height]), x6, x7, x8, x9, x10, x11] ox ax wr 6 _ _ _ (seq_any x.lock.tag x.lock.delay x.lock.height wr hdl)
            refine kk _ _ _ ?_ ?_
            · kernel_rfl
            · exact fun e w' ⟨he, hb⟩ => ⟨_, he, hb, rfl⟩
          | 7, ho =>
            obtain rfl := Option.some.inj ho
            have kk := fun lx ox ax => @step_pure Tryz.prog (RA T C wc.heap.size ia k ic x bn tag) lx [x0, x1, x2, x3, x4, x5, x6, x7, x8, x9, x10, x11] ox ax wr 7 (.pointer (some ⟨C, 3, none⟩))
            refine kk _ _ _ ?_ ?_
            · kernel_rfl
            · exact rfl
          | 8, ho =>
            obtain rfl := Option.some.inj ho
            have h_7 : x7 = .pointer (some ⟨C, 3, none⟩) := hmd.rel 7 (hpre 7 (by kernel_rfl))
            subst h_7
            have k3 := below_cells hmd.bel _ _ c3
            have kk := fun lx ox ax => @step_pure Tryz.prog (RA T C wc.heap.size ia k ic x bn tag) lx [x0, x1, x2, x3, x4, x5, x6, (.pointer (some ⟨C, 3, none⟩)), x8, x9, x10, x11] ox ax wr 8 (.int .i64 bn)
            refine kk _ _ _ ?_ ?_
            · simp [putAll, execOp, go_sem, k3]
            · exact rfl
          | 9, ho =>
            obtain rfl := Option.some.inj ho
            have kk := fun lx ox ax => @step_pure Tryz.prog (RA T C wc.heap.size ia k ic x bn tag) lx [x0, x1, x2, x3, x4, x5, x6, x7, x8, x9, x10, x11] ox ax wr 9 (.int .u16 tag)
            refine kk _ _ _ ?_ ?_
            · kernel_rfl
            · exact rfl
          | 10, ho =>
            obtain rfl := Option.some.inj ho
            have h_3 : x3 = .agg #[.string x.id, .int .u32 x.idx] := hmd.rel 3 (hpre 3 (by kernel_rfl))
            subst h_3
            have h_6 : x6 = .int .u32 (seqOf x.lock.delay) := hmd.rel 6 (hpre 6 (by kernel_rfl))
            subst h_6
            have h_8 : x8 = .int .i64 bn := hmd.rel 8 (hpre 8 (by kernel_rfl))
            subst h_8
            have h_9 : x9 = .int .u16 tag := hmd.rel 9 (hpre 9 (by kernel_rfl))
            subst h_9
            have kk := fun lx ox ax => @step_call Tryz.prog (RA T C wc.heap.size ia k ic x bn tag) lx [x0, x1, x2, (.agg #[.string x.id, .int .u32 x.idx]), x4, x5, (.int .u32 (seqOf x.lock.delay)), x7, (.int .i64 bn), (.int .u16 tag), x10, x11] ox ax wr 10 _ _ _ (csigned_any x.id x.idx (seqOf x.lock.delay) bn tag hbn3 ht wr)
            refine kk _ _ _ ?_ ?_
            · kernel_rfl
            · exact fun e w' h => by obtain ⟨v, rfl, p, rfl, hp, hg, hb⟩ := h; exact ⟨_, rfl, hb, p, hp, lt_of hg, rfl, hg⟩
          | 11, ho =>
            obtain rfl := Option.some.inj ho
            obtain ⟨p, hp1, hp2, h10, hg⟩ : ∃ p, lo 10 ≤ p ∧ p < hi' 10 ∧ x10 = .agg #[.string x.id, .int .u32 x.idx, .int .u32 (seqOf x.lock.delay), .slice (some ⟨p, 0, none⟩) 1 1] ∧ _ := hmd.rel 10 (hpre 10 (by kernel_rfl))
            subst h10
            have hlo := hmd.lohi 10 (hpre 10 (by kernel_rfl))
            have kk := fun lx ox ax => @step_new Tryz.prog (RA T C wc.heap.size ia k ic x bn tag) lx [x0, x1, x2, x3, x4, x5, x6, x7, x8, x9, (.agg #[.string x.id, .int .u32 x.idx, .int .u32 (seqOf x.lock.delay), .slice (some ⟨p, 0, none⟩) 1 1]), x11] ox ax wr 11 (.slice (some ⟨wr.heap.size, 0, none⟩) 1 1) (.cells #[.string x.id, .int .u32 x.idx, .int .u32 (seqOf x.lock.delay), .slice (some ⟨p, 0, none⟩) 1 1] 76)
            refine kk _ _ _ ?_ ?_
            · kernel_rfl
            · exact ⟨wr.heap.size, p, Nat.le_refl _, by simp, by omega, by have := lt_of hg; simp; omega, rfl, heap_alloc_new wr _, (Below.heap_alloc _ _ _ (lt_of hg)).trans hg⟩
          | q + 12, ho => omega
        · intro xs lo hi wr hmd
          obtain ⟨x0, x1, x2, x3, x4, x5, x6, x7, x8, x9, x10, x11, rfl⟩ : ∃ x0 x1 x2 x3 x4 x5 x6 x7 x8 x9 x10 x11, xs = [x0, x1, x2, x3, x4, x5, x6, x7, x8, x9, x10, x11] := by match xs, hmd.len with | [x0, x1, x2, x3, x4, x5, x6, x7, x8, x9, x10, x11], _ => exact ⟨_, _, _, _, _, _, _, _, _, _, _, _, rfl⟩
          simp only [putAll]
          change wpList _ _ _ (_ :: _ :: _ :: []) _ _
          obtain ⟨q, p, hq1, hq2, hp1, hp2, h11, hqg, hpg⟩ : ∃ q p, lo 11 ≤ q ∧ q < hi 11 ∧ wc.heap.size ≤ p ∧ p < hi 11 ∧ x11 = .slice (some ⟨q, 0, none⟩) 1 1 ∧ wr.heap[q]? = some (.cells #[.string x.id, .int .u32 x.idx, .int .u32 (seqOf x.lock.delay), .slice (some ⟨p, 0, none⟩) 1 1] 76 (0, 0)) ∧ wr.heap[p]? = some (.cells #[.string (signW bn tag)] 9 (0, 0)) := hmd.rel 11 (by decide)
          have h1 : x1 = .slice ia k ic := hmd.rel 1 (by decide)
          subst h11
          subst h1
          have hsz := hmd.bel.size
          obtain ⟨a8, c8, w4, hrun, hbox, hkeep, hmi⟩ := (HMI.out.below hmd.bel).app HPL.out (by have := HLEN.out; omega) x.id x.idx (seqOf x.lock.delay) (signW bn tag) (N := wc.heap.size) (fun b hb => (HMI.out.ins.lt hb).2) HMI.out.lt hp1 hqg hpg HOI.out
          have u1 : w4.cell? ⟨T, 1, none⟩ = some (.slice ia k ic) := cell_at hbox
          have f1 : w4.frozen? ⟨T, 1, none⟩ = false := free_at hbox
          have HR := Lib.hid hrun
          have HFI := Lib.hid (show ∃ a' c' p, MI w T (highOf (l.take k)) (.slice a' (k + 1) c') (.slice none 0 0) (ps ++ [(⟨x.id, x.idx, seqOf x.lock.delay, [signW bn tag]⟩, .slice (some ⟨p, 0, none⟩) 1 1)]) (w4.setCell ⟨T, 1, none⟩ (.slice a8 (k + 1) c8)) ∧ ∀ b, b = C ∨ b ≤ X + 1 → (w4.setCell ⟨T, 1, none⟩ (.slice a8 (k + 1) c8)).heap[b]? = wc.heap[b]? from
            ⟨a8, c8, p, hmi, fun b hb => (Below.heap_setCell _ _ _ _ (show b ≠ T by omega)).trans ((hkeep b (by omega) (HNC.out b hb)).trans (hmd.bel.block b (by omega)))⟩)
          clear hrun hkeep hmi hbox hmd hqg hpg
          refine wpList_append_run ?_ (.tmp 22) (.tmp 32) 41 41 ?_ ?_ ?_ HR.out ?_
          · rfl
          · rfl
          · kernel_rfl
          · kernel_rfl
          go_wp2_with fail
          go_meet
          exact HFI.out
      case rest =>
        rename World => w5
        obtain ⟨a8, c8, p, hmi, hkb⟩ := hcut
        have HM5 := Lib.hid hmi
        have HZ0 := Lib.hid ((hkb X (.inr (by omega))).trans HZ0.out)
        have HZ1 := Lib.hid ((hkb (X + 1) (.inr (Nat.le_refl _))).trans HZ1.out)
        have e6 : w5.cell? ⟨C, 6, none⟩ = some (.int .u32 x.lock.height) := cell_at ((hkb C (.inl rfl)).trans HCB.out)
        have t3 : w5.cell? ⟨T, 3, none⟩ = some (.int .u32 (highOf (l.take k))) := cell_at hmi.box
        have f3 : w5.frozen? ⟨T, 3, none⟩ = false := free_at hmi.box
        obtain ⟨m, hm⟩ : ∃ m, m = max (highOf (l.take k)) x.lock.height := ⟨_, rfl⟩
        have hmx : max ((highOf (l.take k) : Nat) : Int) (x.lock.height : Int) = (m : Int) := by omega
        have HNX := Lib.hid (show MI w T (highOf (l.take (k + 1))) (.slice a8 (k + 1) c8) (.slice none 0 0) (ps ++ [(⟨x.id, x.idx, seqOf x.lock.delay, [signW bn tag]⟩, .slice (some ⟨p, 0, none⟩) 1 1)]) (w5.setCell ⟨T, 3, none⟩ (.int .u32 m)) from by
          rw [HHG.out, ← hm]
          exact hmi.set (j := 3) (u := .int .u32 m) rfl)
        generalize highOf (l.take k) = h0 at *
        have HX5 := Lib.hid (show X + 1 < T ∧ X < T by omega)
        clear hmi hkb hm c0 c1 c3 c4 c5 c6 t1
        go_wp2_with fail
        go_roundg (n - (k + 1))
        case measure => have := HGK.out; omega
        case rel => exact ⟨k + 1, a8, c8, _, rfl, by omega, by go_num, HNX.out, by rw [List.map_append, HPS.out, HIN.out]; rfl, by rw [List.length_append, HPL.out]; rfl, (Below.heap_setCell _ _ _ _ (by have := HX5.out; dsimp only; omega)).trans HZ0.out, (Below.heap_setCell _ _ _ _ (by have := HX5.out; dsimp only; omega)).trans HZ1.out⟩
    · obtain rfl : n = k := by omega
      have htk : l.take n = l := List.take_of_length_le (by rw [HN.out]; exact Nat.le_refl _)
      have HH := Lib.hid (HHI.out n)
      rw [htk] at HMI HPS HH
      have t1 : wo.cell? ⟨T, 1, none⟩ = some (.slice ia n ic) := cell_at HMI.out.box
      have z0 : wo.cell? ⟨X, 0, none⟩ = some (.string cid) := cell_at HZ0.out
      have z1 : wo.cell? ⟨X, 1, none⟩ = some (.int .u32 ci) := cell_at HZ0.out
      have HNC := Lib.hid (show (Value.slice ia n ic).ownBlock ≠ some (X + 1) from fun e => by
        have h1 := (HMI.out.ins.row.lt (X + 1) e).1
        omega)
      have h0 : HHI.out n = HHI.out n := rfl
      clear htk h0
      go_upto_region 8 with fail
      go_cut [] (fun wx => ∃ a' c' p, MI w T (highOf l) (.slice a' (n + 1) c') (.slice none 0 0) (ps ++ [(⟨cid, ci, 4294967293, [signW 0 tag]⟩, .slice (some ⟨p, 0, none⟩) 1 1)]) wx ∧ wx.heap[X + 1]? = some (.cells #[.int .u32 0, .slice none 0 0, .slice none 0 0, .int .u32 0] 44 (0, 0)))
      case first =>
        refine wp_region_made (RB T wo.heap.size ia n ic cid ci tag) 6 (by kernel_rfl) (by kernel_rfl) (by kernel_rfl) (by kernel_rfl) (by decide) (by kernel_rfl) ?_ ?_
        · intro i o hi ho L xs lo hi' wr hmd hni hpre
          obtain ⟨x0, x1, x2, x3, x4, x5, rfl⟩ : ∃ x0 x1 x2 x3 x4 x5, xs = [x0, x1, x2, x3, x4, x5] := by match xs, hmd.len with | [x0, x1, x2, x3, x4, x5], _ => exact ⟨_, _, _, _, _, _, rfl⟩
          match i, ho with
          | 0, ho =>
            obtain rfl := Option.some.inj ho
            have kk := fun lx ox ax => @step_pure Tryz.prog (RB T wo.heap.size ia n ic cid ci tag) lx [x0, x1, x2, x3, x4, x5] ox ax wr 0 (.pointer (some ⟨T, 1, none⟩))
            refine kk _ _ _ ?_ ?_
            · kernel_rfl
            · exact rfl
          | 1, ho =>
            obtain rfl := Option.some.inj ho
            have h_0 : x0 = .pointer (some ⟨T, 1, none⟩) := hmd.rel 0 (hpre 0 (by kernel_rfl))
            subst h_0
            have k1 := below_cells hmd.bel _ _ t1
            have kk := fun lx ox ax => @step_pure Tryz.prog (RB T wo.heap.size ia n ic cid ci tag) lx [(.pointer (some ⟨T, 1, none⟩)), x1, x2, x3, x4, x5] ox ax wr 1 (.slice ia n ic)
            refine kk _ _ _ ?_ ?_
            · simp [putAll, execOp, go_sem, k1]
            · exact rfl
          | 2, ho =>
            obtain rfl := Option.some.inj ho
            have k0 := below_cells hmd.bel _ _ z0
            have k1 := below_cells hmd.bel _ _ z1
            have kk := fun lx ox ax => @step_pure Tryz.prog (RB T wo.heap.size ia n ic cid ci tag) lx [x0, x1, x2, x3, x4, x5] ox ax wr 2 (.agg #[.string cid, .int .u32 ci])
            refine kk _ _ _ ?_ ?_
            · simp [putAll, execOp, go_sem, k0, k1]
            · exact rfl
          | 3, ho =>
            obtain rfl := Option.some.inj ho
            have kk := fun lx ox ax => @step_pure Tryz.prog (RB T wo.heap.size ia n ic cid ci tag) lx [x0, x1, x2, x3, x4, x5] ox ax wr 3 (.int .u16 tag)
            refine kk _ _ _ ?_ ?_
            · kernel_rfl
            · exact rfl
          | 4, ho =>
            obtain rfl := Option.some.inj ho
            have h_2 : x2 = .agg #[.string cid, .int .u32 ci] := hmd.rel 2 (hpre 2 (by kernel_rfl))
            subst h_2
            have h_3 : x3 = .int .u16 tag := hmd.rel 3 (hpre 3 (by kernel_rfl))
            subst h_3
            have kk := fun lx ox ax => @step_call Tryz.prog (RB T wo.heap.size ia n ic cid ci tag) lx [x0, x1, (.agg #[.string cid, .int .u32 ci]), (.int .u16 tag), x4, x5] ox ax wr 4 _ _ _ (csigned_any cid ci 4294967293 0 tag (by decide) ht wr)
            refine kk _ _ _ ?_ ?_
            · kernel_rfl
            · exact fun e w' h => by obtain ⟨v, rfl, p, rfl, hp, hg, hb⟩ := h; exact ⟨_, rfl, hb, p, hp, lt_of hg, rfl, hg⟩
          | 5, ho =>
            obtain rfl := Option.some.inj ho
            obtain ⟨p, hp1, hp2, h4, hg⟩ : ∃ p, lo 4 ≤ p ∧ p < hi' 4 ∧ x4 = .agg #[.string cid, .int .u32 ci, .int .u32 (4294967293 : Nat), .slice (some ⟨p, 0, none⟩) 1 1] ∧ _ := hmd.rel 4 (hpre 4 (by kernel_rfl))
            subst h4
            have hlo := hmd.lohi 4 (hpre 4 (by kernel_rfl))
            have kk := fun lx ox ax => @step_new Tryz.prog (RB T wo.heap.size ia n ic cid ci tag) lx [x0, x1, x2, x3, (.agg #[.string cid, .int .u32 ci, .int .u32 (4294967293 : Nat), .slice (some ⟨p, 0, none⟩) 1 1]), x5] ox ax wr 5 (.slice (some ⟨wr.heap.size, 0, none⟩) 1 1) (.cells #[.string cid, .int .u32 ci, .int .u32 (4294967293 : Nat), .slice (some ⟨p, 0, none⟩) 1 1] 76)
            refine kk _ _ _ ?_ ?_
            · kernel_rfl
            · exact ⟨wr.heap.size, p, Nat.le_refl _, by simp, by omega, by have := lt_of hg; simp; omega, rfl, heap_alloc_new wr _, (Below.heap_alloc _ _ _ (lt_of hg)).trans hg⟩
          | q + 6, ho => omega
        · intro xs lo hi wr hmd
          obtain ⟨x0, x1, x2, x3, x4, x5, rfl⟩ : ∃ x0 x1 x2 x3 x4 x5, xs = [x0, x1, x2, x3, x4, x5] := by match xs, hmd.len with | [x0, x1, x2, x3, x4, x5], _ => exact ⟨_, _, _, _, _, _, rfl⟩
          simp only [putAll]
          change wpList _ _ _ (_ :: _ :: _ :: []) _ _
          obtain ⟨q, p, hq1, hq2, hp1, hp2, h11, hqg, hpg⟩ : ∃ q p, lo 5 ≤ q ∧ q < hi 5 ∧ wo.heap.size ≤ p ∧ p < hi 5 ∧ x5 = .slice (some ⟨q, 0, none⟩) 1 1 ∧ wr.heap[q]? = some (.cells #[.string cid, .int .u32 ci, .int .u32 (4294967293 : Nat), .slice (some ⟨p, 0, none⟩) 1 1] 76 (0, 0)) ∧ wr.heap[p]? = some (.cells #[.string (signW 0 tag)] 9 (0, 0)) := hmd.rel 5 (by decide)
          have h1 : x1 = .slice ia n ic := hmd.rel 1 (by decide)
          subst h11
          subst h1
          have hsz := hmd.bel.size
          obtain ⟨a8, c8, w4, hrun, hbox, hkeep, hmi⟩ := (HMI.out.below hmd.bel).app HPL.out (by have := HLEN.out; omega) cid ci 4294967293 (signW 0 tag) (N := wo.heap.size) (fun b hb => (HMI.out.ins.lt hb).2) HMI.out.lt hp1 hqg hpg HCI.out
          have u1 : w4.cell? ⟨T, 1, none⟩ = some (.slice ia n ic) := cell_at hbox
          have f1 : w4.frozen? ⟨T, 1, none⟩ = false := free_at hbox
          have HR := Lib.hid hrun
          have HFI := Lib.hid (show ∃ a' c' p, MI w T (highOf l) (.slice a' (n + 1) c') (.slice none 0 0) (ps ++ [(⟨cid, ci, 4294967293, [signW 0 tag]⟩, .slice (some ⟨p, 0, none⟩) 1 1)]) (w4.setCell ⟨T, 1, none⟩ (.slice a8 (n + 1) c8)) ∧ (w4.setCell ⟨T, 1, none⟩ (.slice a8 (n + 1) c8)).heap[X + 1]? = some (.cells #[.int .u32 0, .slice none 0 0, .slice none 0 0, .int .u32 0] 44 (0, 0)) from
            ⟨a8, c8, p, hmi, (Below.heap_setCell _ _ _ _ (show X + 1 ≠ T by omega)).trans ((hkeep (X + 1) (by omega) HNC.out).trans ((hmd.bel.block (X + 1) (by omega)).trans HZ1.out))⟩)
          clear hrun hkeep hmi hbox hmd hqg hpg
          refine wpList_append_run ?_ (.tmp 44) (.tmp 48) 41 41 ?_ ?_ ?_ HR.out ?_
          · rfl
          · rfl
          · kernel_rfl
          · kernel_rfl
          go_wp2_with fail
          go_meet
          exact HFI.out
      case rest =>
        rename World => w5
        obtain ⟨a8, c8, p, hmi, hz1⟩ := hcut
        have HM5 := Lib.hid hmi
        have HZ1 := Lib.hid hz1
        clear hmi hz1 t1 z0 z1
        go_wp2_with fail
        refine (lput_one w5 tag ht).mono ?_
        rintro e w6 ⟨rfl, hb⟩
        have hb0 := ((Below.refl w5.heap.size w5).alloc (Nat.le_refl _) (.cells #[.int .u16 tag, .int .u16 0, .int .u32 0] 32)).trans (hb.mono (by simp))
        have HM6 := Lib.hid (HM5.out.below hb0)
        have HZ1 := Lib.hid (stay HZ1.out hb0)
        clear hb hb0 HM5
        have t2 : w6.cell? ⟨T, 2, none⟩ = some (.slice none 0 0) := cell_at HM6.out.box
        have t2a : ∀ o, (w6.alloc o).cell? ⟨T, 2, none⟩ = some (.slice none 0 0) := fun o => cell_over t2 o
        have f2a : ∀ o, (w6.alloc o).frozen? ⟨T, 2, none⟩ = false := fun o => free_at ((Below.heap_alloc w6 o T HM6.out.lt).trans HM6.out.box)
        go_upto_region 11 with fail
        have hal : Below w6.heap.size w6 (w6.alloc (.cells #[.int .i64 val, .string (scrT tag)] 38)) := (Below.refl _ _).alloc (Nat.le_refl _) _
        have hqg := heap_alloc_new w6 (.cells #[.int .i64 val, .string (scrT tag)] 38)
        have hQT : T < w6.heap.size := HM6.out.lt
        have HM7 := Lib.hid ((HM6.out.below hal).set (j := 2) (u := .slice (some ⟨w6.heap.size, 0, none⟩) 1 1) (hi' := highOf l) (vo' := .slice (some ⟨w6.heap.size, 0, none⟩) 1 1) rfl)
        have HQ7 := Lib.hid ((Below.heap_setCell (w6.alloc (.cells #[.int .i64 val, .string (scrT tag)] 38)) ⟨T, 2, none⟩ (.slice (some ⟨w6.heap.size, 0, none⟩) 1 1) w6.heap.size (by dsimp only; omega)).trans hqg)
        have HZ7 := Lib.hid ((Below.heap_setCell (w6.alloc (.cells #[.int .i64 val, .string (scrT tag)] 38)) ⟨T, 2, none⟩ (.slice (some ⟨w6.heap.size, 0, none⟩) 1 1) (X + 1) (by dsimp only; omega)).trans (stay HZ1.out hal))
        have hwq := HM6.out.bel.size
        generalize (w6.alloc (.cells #[.int .i64 val, .string (scrT tag)] 38)).setCell ⟨T, 2, none⟩ (.slice (some ⟨w6.heap.size, 0, none⟩) 1 1) = w7 at *
        generalize w6.heap.size = Q at *
        have t0 : w7.cell? ⟨T, 0, none⟩ = some (.int .u32 2) := cell_at HM7.out.box
        have t1 : w7.cell? ⟨T, 1, none⟩ = some (.slice a8 (n + 1) c8) := cell_at HM7.out.box
        have t2' : w7.cell? ⟨T, 2, none⟩ = some (.slice (some ⟨Q, 0, none⟩) 1 1) := cell_at HM7.out.box
        have t3 : w7.cell? ⟨T, 3, none⟩ = some (.int .u32 (highOf l)) := cell_at HM7.out.box
        have r0 : w7.cell? ⟨X + 1, 0, none⟩ = some (.int .u32 0) := cell_at HZ7.out
        have r1 : w7.cell? ⟨X + 1, 1, none⟩ = some (.slice none 0 0) := cell_at HZ7.out
        have r2 : w7.cell? ⟨X + 1, 2, none⟩ = some (.slice none 0 0) := cell_at HZ7.out
        have r3 : w7.cell? ⟨X + 1, 3, none⟩ = some (.int .u32 0) := cell_at HZ7.out
        have g0 : w7.frozen? ⟨X + 1, 0, none⟩ = false := free_at HZ7.out
        have g1 : w7.frozen? ⟨X + 1, 1, none⟩ = false := free_at HZ7.out
        have g2 : w7.frozen? ⟨X + 1, 2, none⟩ = false := free_at HZ7.out
        have g3 : w7.frozen? ⟨X + 1, 3, none⟩ = false := free_at HZ7.out
        have HM8 := Lib.hid ((((HM7.out.aside (p := ⟨X + 1, 0, none⟩) (.int .u32 2) (by dsimp only; omega) hTX).aside (p := ⟨X + 1, 1, none⟩) (.slice a8 (n + 1) c8) (by dsimp only; omega) hTX).aside (p := ⟨X + 1, 2, none⟩) (.slice (some ⟨Q, 0, none⟩) 1 1) (by dsimp only; omega) hTX).aside (p := ⟨X + 1, 3, none⟩) (.int .u32 (highOf l)) (by dsimp only; omega) hTX)
        have hne : Q ≠ X + 1 := by omega
        have HQ8 := Lib.hid (show ((((w7.setCell ⟨X + 1, 0, none⟩ (.int .u32 2)).setCell ⟨X + 1, 1, none⟩ (.slice a8 (n + 1) c8)).setCell ⟨X + 1, 2, none⟩ (.slice (some ⟨Q, 0, none⟩) 1 1)).setCell ⟨X + 1, 3, none⟩ (.int .u32 (highOf l))).heap[Q]? = some (.cells #[.int .i64 val, .string (scrT tag)] 38 (0, 0)) by
          rw [Below.heap_setCell _ _ _ _ hne, Below.heap_setCell _ _ _ _ hne, Below.heap_setCell _ _ _ _ hne, Below.heap_setCell _ _ _ _ hne]; exact HQ7.out)
        have HQW := Lib.hid (show w.heap.size ≤ Q by omega)
        have HTE := Lib.hid (show claimTx l cid ci tag val = ⟨2, (ps ++ [((⟨cid, ci, 4294967293, [signW 0 tag]⟩ : PIn), (.slice (some ⟨p, 0, none⟩) 1 1 : Value))]).map (·.1), [⟨val, scrT tag⟩], highOf l⟩ by
          rw [List.map_append, HPS.out]; rfl)
        have HNL := Lib.hid (show (claimTx l cid ci tag val).ins.length = n + 1 by rw [claim_ins_len, HN.out])
        have HSC := Lib.hid (show OkOut ⟨val, scrT tag⟩ from ⟨HVAL.out, by dsimp only; rw [scrT_size]; decide⟩)
        have HF := Lib.hid (show CMadeIs (claimTx l cid ci tag val) ⟨val, scrT tag⟩ w (.returned (.agg #[.int .u32 2, .slice a8 (n + 1) c8, .slice (some ⟨Q, 0, none⟩) 1 1, .int .u32 (highOf l)])) ((((w7.setCell ⟨X + 1, 0, none⟩ (.int .u32 2)).setCell ⟨X + 1, 1, none⟩ (.slice a8 (n + 1) c8)).setCell ⟨X + 1, 2, none⟩ (.slice (some ⟨Q, 0, none⟩) 1 1)).setCell ⟨X + 1, 3, none⟩ (.int .u32 (highOf l))) from by
          have e := HM8.out.new (t := claimTx l cid ci tag val) (x := ⟨val, scrT tag⟩) HQW.out HQ8.out HSC.out HTE.out (by have := HH.out; omega)
          unfold CMadeIs
          rw [HNL.out]
          exact ⟨a8, c8, Q, rfl, HQW.out, HQ8.out, e, HM8.out.bel⟩)
        clear hal hqg t2 t2a f2a HQ7 HZ7 hwq
        go_wp2_with fail
        exact bodyPost_ret (v := .agg #[.int .u32 2, .slice a8 (n + 1) c8, .slice (some ⟨Q, 0, none⟩) 1 1, .int .u32 (highOf l)]) (by simp [results, Tryz.results36, go_sem, r0, r1, r2, r3]) rfl HF.out
end Go.Proofs.YtmakghcoehkphaaGreat
