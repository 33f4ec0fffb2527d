/-
  RecPuts, part 9: the texts Eg2, Eg3, Eg4, Eg9, Eh, one after another. Conditions: none beyond those named at each.
-/
import Derived.Test.YtaooibocknemkaaGreatQ8RecPuts
import Derived.Test.YtaooibocknemkaaGreatRb
import Derived.Test.YtaooibocknemkaaGreatQ6RecPuts
import Derived.Test.YtaooibocknemkaaGreatQ4RecPuts
section
namespace Go.Proofs.YtaooibocknemkaaGreat
open Go.RowKit Go.BigFrame
open Go.Lib (hid)
set_option linter.unusedVariables false
set_option linter.unusedSimpArgs false
/-- The kind's own parts of a claim's record, as far as they are laid. -/
def ownC (r : PRec) (p q s : Bool) : Array Value := #[.int .i64 r.kind, .int .i64 r.num, .int .u32 0, .slice none 0 0, .slice none 0 0, .int .u32 0, .int .i64 0, (bif p then .string r.id else .string ⟨#[]⟩), (bif p then .int .u32 r.idx else .int .u32 0), (bif p then .int .i64 r.val else .int .i64 0), (bif p then .int .i64 r.br else .int .i64 0), (bif p then .int .u16 r.tag else .int .u16 0), (bif p then .int .u16 r.delay else .int .u16 0), (bif p then .int .u32 r.height else .int .u32 0), (bif p then .int .i64 r.dead else .int .i64 0), (bif q then .int .i64 r.budget else .int .i64 0), (bif s then .int .i64 r.start else .int .i64 0), .int .i64 0]
def RL9 (vs : List Value) (i : Nat) (_ : List Value) (v : Value) : Prop := v = vs.getD i undef
structure W9 (X : Nat) (r : PRec) (x : Array Value) (w0 : World) (L : Nat → Prop) (w : World) : Prop where
  src : w.heap[X]? = some (.cells x 35 (0, 0))
  fr : Fr [X + 1 + 1] w0 w
  ex : ∃ p q s : Bool, (p = true ↔ L 7) ∧ (q = true ↔ L 9) ∧ (s = true ↔ L 11) ∧ w.heap[X + 1 + 1]? = some (.cells (ownC r p q s) 35 (0, 0))
theorem or_ne {i j : Nat} {L : Nat → Prop} {b : Bool} (h : b = true ↔ L j) (hn : j ≠ i) : b = true ↔ (j = i ∨ L j) := ⟨fun e => .inr (h.1 e), fun e => e.elim (fun x => absurd x hn) h.2⟩
theorem W9.add {X : Nat} {r : PRec} {x : Array Value} {w0 w : World} {L : Nat → Prop} (h : W9 X r x w0 L w) (i : Nat) (h7 : 7 ≠ i) (h9 : 9 ≠ i) (h11 : 11 ≠ i) : W9 X r x w0 (fun j => j = i ∨ L j) w := by
  obtain ⟨p, q, s, h1, h2, h3, h4⟩ := h.ex
  exact ⟨h.src, h.fr, p, q, s, or_ne h1 h7, or_ne h2 h9, or_ne h3 h11, h4⟩
theorem W9.ex7 {X : Nat} {r : PRec} {x : Array Value} {w0 w : World} {L : Nat → Prop} (h : W9 X r x w0 L w) (hn : ¬ L 7) : ∃ q s : Bool, (q = true ↔ L 9) ∧ (s = true ↔ L 11) ∧ w.heap[X + 1 + 1]? = some (.cells (ownC r false q s) 35 (0, 0)) := by
  obtain ⟨p, q, s, h1, h2, h3, h4⟩ := h.ex
  cases p with
  | true => exact absurd (h1.1 rfl) hn
  | false => exact ⟨q, s, h2, h3, h4⟩
theorem W9.ex9 {X : Nat} {r : PRec} {x : Array Value} {w0 w : World} {L : Nat → Prop} (h : W9 X r x w0 L w) (hn : ¬ L 9) : ∃ p s : Bool, (p = true ↔ L 7) ∧ (s = true ↔ L 11) ∧ w.heap[X + 1 + 1]? = some (.cells (ownC r p false s) 35 (0, 0)) := by
  obtain ⟨p, q, s, h1, h2, h3, h4⟩ := h.ex
  cases q with
  | true => exact absurd (h2.1 rfl) hn
  | false => exact ⟨p, s, h1, h3, h4⟩
theorem W9.ex11 {X : Nat} {r : PRec} {x : Array Value} {w0 w : World} {L : Nat → Prop} (h : W9 X r x w0 L w) (hn : ¬ L 11) : ∃ p q : Bool, (p = true ↔ L 7) ∧ (q = true ↔ L 9) ∧ w.heap[X + 1 + 1]? = some (.cells (ownC r p q false) 35 (0, 0)) := by
  obtain ⟨p, q, s, h1, h2, h3, h4⟩ := h.ex
  cases s with
  | true => exact absurd (h3.1 rfl) hn
  | false => exact ⟨p, q, h1, h2, h4⟩
theorem W9.stored {X : Nat} {r : PRec} {x : Array Value} {w0 w : World} {L : Nat → Prop} (h : W9 X r x w0 L w) {cs : Array Value} (hc : w.heap[X + 1 + 1]? = some (.cells cs 35 (0, 0))) (l : List (Nat × Value)) :
    (stores w (X + 1 + 1) l).heap[X]? = some (.cells x 35 (0, 0)) ∧ Fr [X + 1 + 1] w0 (stores w (X + 1 + 1) l) ∧ (stores w (X + 1 + 1) l).heap[X + 1 + 1]? = some (.cells (storesA cs l) 35 (0, 0)) := by
  obtain ⟨s1, s2, s3⟩ := stores_spec l hc
  refine ⟨(s2 X (by omega)).trans h.src, h.fr.trans' ?_, s1⟩
  have b := s3 0 (by omega)
  exact ⟨b.os, b.tape, b.output, b.size, fun c _ hc => s2 c (fun e => hc (by simp [e]))⟩
theorem W9.all {X : Nat} {r : PRec} {x : Array Value} {w0 w : World} (h : W9 X r x w0 (fun j => j < 12) w) : w.heap[X + 1 + 1]? = some (.cells (ownC r true true true) 35 (0, 0)) := by
  obtain ⟨p, q, s, h1, h2, h3, h4⟩ := h.ex
  obtain rfl := h1.2 (by decide)
  obtain rfl := h2.2 (by decide)
  obtain rfl := h3.2 (by decide)
  exact h4
theorem W9.has {X : Nat} {r : PRec} {x : Array Value} {w0 w : World} {L : Nat → Prop} (h : W9 X r x w0 L w) (j : Nat) (hj : j < 18) : ∃ v, w.cell? ⟨X + 1 + 1, j, none⟩ = some v := by
  obtain ⟨p, q, s, h1, h2, h3, h4⟩ := h.ex
  have hs : j < (ownC r p q s).size := hj
  exact ⟨(ownC r p q s)[j], (cell_at h4).trans (Array.getElem?_eq_getElem hs)⟩
theorem W9.free {X : Nat} {r : PRec} {x : Array Value} {w0 w : World} {L : Nat → Prop} (h : W9 X r x w0 L w) (j : Nat) : w.frozen? ⟨X + 1 + 1, j, none⟩ = false := by
  obtain ⟨p, q, s, h1, h2, h3, h4⟩ := h.ex
  exact free_at h4
theorem W9.st7 {X : Nat} {r : PRec} {x : Array Value} {w0 w : World} {L : Nat → Prop} (h : W9 X r x w0 L w) (hn : ¬ L 7) : W9 X r x w0 (fun j => j = 7 ∨ L j) (stores w (X + 1 + 1) [(7, .string r.id), (8, .int .u32 r.idx), (9, .int .i64 r.val), (10, .int .i64 r.br), (11, .int .u16 r.tag), (12, .int .u16 r.delay), (13, .int .u32 r.height), (14, .int .i64 r.dead)]) := by
  obtain ⟨q, s, h2, h3, h4⟩ := h.ex7 hn
  obtain ⟨g1, g2, g3⟩ := h.stored h4 [(7, .string r.id), (8, .int .u32 r.idx), (9, .int .i64 r.val), (10, .int .i64 r.br), (11, .int .u16 r.tag), (12, .int .u16 r.delay), (13, .int .u32 r.height), (14, .int .i64 r.dead)]
  rw [show storesA (ownC r false q s) [(7, .string r.id), (8, .int .u32 r.idx), (9, .int .i64 r.val), (10, .int .i64 r.br), (11, .int .u16 r.tag), (12, .int .u16 r.delay), (13, .int .u32 r.height), (14, .int .i64 r.dead)] = ownC r true q s from by kernel_rfl] at g3
  exact ⟨g1, g2, true, q, s, ⟨fun _ => .inl rfl, fun _ => rfl⟩, or_ne h2 (by decide), or_ne h3 (by decide), g3⟩
theorem W9.st9 {X : Nat} {r : PRec} {x : Array Value} {w0 w : World} {L : Nat → Prop} (h : W9 X r x w0 L w) (hn : ¬ L 9) : W9 X r x w0 (fun j => j = 9 ∨ L j) (stores w (X + 1 + 1) [(15, .int .i64 r.budget)]) := by
  obtain ⟨p, s, h1, h3, h4⟩ := h.ex9 hn
  obtain ⟨g1, g2, g3⟩ := h.stored h4 [(15, .int .i64 r.budget)]
  exact ⟨g1, g2, p, true, s, or_ne h1 (by decide), ⟨fun _ => .inl rfl, fun _ => rfl⟩, or_ne h3 (by decide), g3⟩
theorem W9.st11 {X : Nat} {r : PRec} {x : Array Value} {w0 w : World} {L : Nat → Prop} (h : W9 X r x w0 L w) (hn : ¬ L 11) : W9 X r x w0 (fun j => j = 11 ∨ L j) (stores w (X + 1 + 1) [(16, .int .i64 r.start)]) := by
  obtain ⟨p, q, h1, h2, h4⟩ := h.ex11 hn
  obtain ⟨g1, g2, g3⟩ := h.stored h4 [(16, .int .i64 r.start)]
  exact ⟨g1, g2, p, q, true, or_ne h1 (by decide), or_ne h2 (by decide), ⟨fun _ => .inl rfl, fun _ => rfl⟩, g3⟩
set_option maxRecDepth 100000 in
set_option maxHeartbeats 8000000 in
theorem plain_k2 (v1 : Value) (r : PRec) (w : World) (h1 : RecAt w v1 r) (hk : r.kind = 2) : Calls Tryz.prog 45 #[v1] w (PlainP (ownR r) (decide (1 ≤ r.kind ∧ r.kind ≤ 5)) w) := by
  obtain ⟨va, vb, rfl, hi1, ho1, hk1⟩ := h1
  have HI := hid hi1
  have HO := hid ho1
  have HK := hid (ownR_ok hk1)
  obtain ⟨ia, ic, rfl, -, -⟩ := hi1.shape
  obtain ⟨oa, oc, rfl, -, -⟩ := ho1.shape
  obtain ⟨n1, hn1⟩ : ∃ n, n = r.tx.ins.length := ⟨_, rfl⟩
  obtain ⟨n2, hn2⟩ : ∃ n, n = r.tx.outs.length := ⟨_, rfl⟩
  rw [← hn1, ← hn2]
  rw [← hn1] at HI
  rw [← hn2] at HO
  clear hn1 hn2 hi1 ho1 hk1
  obtain ⟨kb, hkb⟩ : ∃ kb, kb = decide (1 ≤ r.kind ∧ r.kind ≤ 5) := ⟨_, rfl⟩
  rw [← hkb]
  have HKB := hid hkb
  clear hkb
  obtain ⟨X, hX⟩ : ∃ q, q = w.heap.size := ⟨_, rfl⟩
  obtain ⟨hz2, hy0, hy1, hy2, hal⟩ := box3 w X hX #[.int .i64 r.kind, .int .i64 r.num, .int .u32 r.tx.ver, .slice ia n1 ic, .slice oa n2 oc, .int .u32 r.tx.lock, .int .i64 r.index, .string r.id, .int .u32 r.idx, .int .i64 r.val, .int .i64 r.br, .int .u16 r.tag, .int .u16 r.delay, .int .u32 r.height, .int .i64 r.dead, .int .i64 r.budget, .int .i64 r.start, .int .i64 r.fee] #[.int .i64 0, .int .i64 0, .int .u32 0, .slice none 0 0, .slice none 0 0, .int .u32 0, .int .i64 0, .string ⟨#[]⟩, .int .u32 0, .int .i64 0, .int .i64 0, .int .u16 0, .int .u16 0, .int .u32 0, .int .i64 0, .int .i64 0, .int .i64 0, .int .i64 0] #[.int .i64 0, .int .i64 0, .int .u32 0, .slice none 0 0, .slice none 0 0, .int .u32 0, .int .i64 0, .string ⟨#[]⟩, .int .u32 0, .int .i64 0, .int .i64 0, .int .u16 0, .int .u16 0, .int .u32 0, .int .i64 0, .int .i64 0, .int .i64 0, .int .i64 0] #[.int .i64 r.kind, .int .i64 r.num, .int .u32 0, .slice none 0 0, .slice none 0 0, .int .u32 0, .int .i64 0, .string ⟨#[]⟩, .int .u32 0, .int .i64 0, .int .i64 0, .int .u16 0, .int .u16 0, .int .u32 0, .int .i64 0, .int .i64 0, .int .i64 0, .int .i64 0] 35
  have HN2 := hid hz2
  have HZ0 := hid hy0
  have HZ1 := hid hy1
  have HZ2 := hid hy2
  have HB := hid hal
  have HX := hid hX
  clear hz2 hy0 hy1 hy2 hal hX
  have HKK := hid hk
  have c1 : (r.kind == 1) = false := by rw [beq_eq_false_iff_ne]; omega
  have c2 : (r.kind == 2) = true := by rw [beq_iff_eq]; exact hk
  clear hk
  go_enter Tryz.func45, Tryz.ntmps45
  go_upto_region 2 with (refine wpList_store_row rfl 35 (.tmp 4) (.tmp 9) rfl (X + 1 + 1) #[.int .i64 r.kind, .int .i64 r.num, .int .u32 0, .slice none 0 0, .slice none 0 0, .int .u32 0, .int .i64 0, .string ⟨#[]⟩, .int .u32 0, .int .i64 0, .int .i64 0, .int .u16 0, .int .u16 0, .int .u32 0, .int .i64 0, .int .i64 0, .int .i64 0, .int .i64 0] (by rw [HX.out]; rfl) rfl 35 _ HN2.out (by kernel_rfl) rfl (by kernel_rfl) ?_)
  rw [← HX.out]
  generalize World.setRow _ (X + 1 + 1) #[.int .i64 r.kind, .int .i64 r.num, .int .u32 0, .slice none 0 0, .slice none 0 0, .int .u32 0, .int .i64 0, .string ⟨#[]⟩, .int .u32 0, .int .i64 0, .int .i64 0, .int .u16 0, .int .u16 0, .int .u32 0, .int .i64 0, .int .i64 0, .int .i64 0, .int .i64 0] = w0 at *
  clear HN2
  have x0 : w0.cell? ⟨X, 0, none⟩ = some (.int .i64 r.kind) := cell_at HZ0.out
  go_upto_region 9 with fail
  have HW9 := hid (show W9 X r #[.int .i64 r.kind, .int .i64 r.num, .int .u32 r.tx.ver, .slice ia n1 ic, .slice oa n2 oc, .int .u32 r.tx.lock, .int .i64 r.index, .string r.id, .int .u32 r.idx, .int .i64 r.val, .int .i64 r.br, .int .u16 r.tag, .int .u16 r.delay, .int .u32 r.height, .int .i64 r.dead, .int .i64 r.budget, .int .i64 r.start, .int .i64 r.fee] w0 (fun _ => False) w0.drew from ⟨HZ0.out, Fr.drew _ _, false, false, false, ⟨fun e => (by cases e), False.elim⟩, ⟨fun e => (by cases e), False.elim⟩, ⟨fun e => (by cases e), False.elim⟩, HZ2.out⟩)
  clear x0
  refine wp_region_vals (RL9 [.pointer (some ⟨X, 7, none⟩), .agg #[.string r.id, .int .u32 r.idx, .int .i64 r.val, .int .i64 r.br, .int .u16 r.tag, .int .u16 r.delay, .int .u32 r.height, .int .i64 r.dead], .pointer (some ⟨X, 15, none⟩), .int .i64 r.budget, .pointer (some ⟨X, 16, none⟩), .int .i64 r.start, .pointer (some ⟨X + 1 + 1, 7, none⟩), undef, .pointer (some ⟨X + 1 + 1, 15, none⟩), undef, .pointer (some ⟨X + 1 + 1, 16, none⟩), undef]) (W9 X r #[.int .i64 r.kind, .int .i64 r.num, .int .u32 r.tx.ver, .slice ia n1 ic, .slice oa n2 oc, .int .u32 r.tx.lock, .int .i64 r.index, .string r.id, .int .u32 r.idx, .int .i64 r.val, .int .i64 r.br, .int .u16 r.tag, .int .u16 r.delay, .int .u32 r.height, .int .i64 r.dead, .int .i64 r.budget, .int .i64 r.start, .int .i64 r.fee] w0) (by kernel_rfl) (by kernel_rfl) (by kernel_rfl) (by kernel_rfl) (HW9.out) ?_ ?_
  · intro i o hi ho L xs wr hmd hw hni hpre
    obtain ⟨x0, x1, x2, x3, x4, x5, x6, x7, x8, x9, x10, x11, rfl⟩ : ∃ x0 x1 x2 x3 x4 x5 x6 x7 x8 x9 x10 x11, xs = [x0, x1, x2, x3, x4, x5, x6, x7, x8, x9, x10, x11] := by match xs, hmd.len with | [x0, x1, x2, x3, x4, x5, x6, x7, x8, x9, x10, x11], _ => exact ⟨_, _, _, _, _, _, _, _, _, _, _, _, rfl⟩
    match i, ho with
    | 0, ho =>
      obtain rfl := Option.some.inj ho
      have kk := fun lx ox ax => @vstep_run Tryz.prog lx [x0, x1, x2, x3, x4, x5, x6, x7, x8, x9, x10, x11] (RL9 [.pointer (some ⟨X, 7, none⟩), .agg #[.string r.id, .int .u32 r.idx, .int .i64 r.val, .int .i64 r.br, .int .u16 r.tag, .int .u16 r.delay, .int .u32 r.height, .int .i64 r.dead], .pointer (some ⟨X, 15, none⟩), .int .i64 r.budget, .pointer (some ⟨X, 16, none⟩), .int .i64 r.start, .pointer (some ⟨X + 1 + 1, 7, none⟩), undef, .pointer (some ⟨X + 1 + 1, 15, none⟩), undef, .pointer (some ⟨X + 1 + 1, 16, none⟩), undef]) (W9 X r #[.int .i64 r.kind, .int .i64 r.num, .int .u32 r.tx.ver, .slice ia n1 ic, .slice oa n2 oc, .int .u32 r.tx.lock, .int .i64 r.index, .string r.id, .int .u32 r.idx, .int .i64 r.val, .int .i64 r.br, .int .u16 r.tag, .int .u16 r.delay, .int .u32 r.height, .int .i64 r.dead, .int .i64 r.budget, .int .i64 r.start, .int .i64 r.fee] w0) L ox ax wr wr 0 (.pointer (some ⟨X, 7, none⟩))
      refine kk _ _ _ ?_ ?_ ?_
      · kernel_rfl
      · exact rfl
      · exact hw.add 0 (by decide) (by decide) (by decide)
    | 1, ho =>
      obtain rfl := Option.some.inj ho
      have h_0 : x0 = .pointer (some ⟨X, 7, none⟩) := hmd.rel 0 (hpre 0 (by kernel_rfl))
      subst h_0
      have kk := fun lx ox ax => @vstep_run Tryz.prog lx [(.pointer (some ⟨X, 7, none⟩)), x1, x2, x3, x4, x5, x6, x7, x8, x9, x10, x11] (RL9 [.pointer (some ⟨X, 7, none⟩), .agg #[.string r.id, .int .u32 r.idx, .int .i64 r.val, .int .i64 r.br, .int .u16 r.tag, .int .u16 r.delay, .int .u32 r.height, .int .i64 r.dead], .pointer (some ⟨X, 15, none⟩), .int .i64 r.budget, .pointer (some ⟨X, 16, none⟩), .int .i64 r.start, .pointer (some ⟨X + 1 + 1, 7, none⟩), undef, .pointer (some ⟨X + 1 + 1, 15, none⟩), undef, .pointer (some ⟨X + 1 + 1, 16, none⟩), undef]) (W9 X r #[.int .i64 r.kind, .int .i64 r.num, .int .u32 r.tx.ver, .slice ia n1 ic, .slice oa n2 oc, .int .u32 r.tx.lock, .int .i64 r.index, .string r.id, .int .u32 r.idx, .int .i64 r.val, .int .i64 r.br, .int .u16 r.tag, .int .u16 r.delay, .int .u32 r.height, .int .i64 r.dead, .int .i64 r.budget, .int .i64 r.start, .int .i64 r.fee] w0) L ox ax wr wr 1 (.agg #[.string r.id, .int .u32 r.idx, .int .i64 r.val, .int .i64 r.br, .int .u16 r.tag, .int .u16 r.delay, .int .u32 r.height, .int .i64 r.dead])
      refine kk _ _ _ ?_ ?_ ?_
      · (have x7_ : wr.cell? ⟨X, 7, none⟩ = some (.string r.id) := cell_at hw.src; have x8_ : wr.cell? ⟨X, 8, none⟩ = some (.int .u32 r.idx) := cell_at hw.src; have x9_ : wr.cell? ⟨X, 9, none⟩ = some (.int .i64 r.val) := cell_at hw.src; have x10_ : wr.cell? ⟨X, 10, none⟩ = some (.int .i64 r.br) := cell_at hw.src; have x11_ : wr.cell? ⟨X, 11, none⟩ = some (.int .u16 r.tag) := cell_at hw.src; have x12_ : wr.cell? ⟨X, 12, none⟩ = some (.int .u16 r.delay) := cell_at hw.src; have x13_ : wr.cell? ⟨X, 13, none⟩ = some (.int .u32 r.height) := cell_at hw.src; have x14_ : wr.cell? ⟨X, 14, none⟩ = some (.int .i64 r.dead) := cell_at hw.src; simp [putAll, execOp, go_sem, x7_, x8_, x9_, x10_, x11_, x12_, x13_, x14_])
      · exact rfl
      · exact hw.add 1 (by decide) (by decide) (by decide)
    | 2, ho =>
      obtain rfl := Option.some.inj ho
      have kk := fun lx ox ax => @vstep_run Tryz.prog lx [x0, x1, x2, x3, x4, x5, x6, x7, x8, x9, x10, x11] (RL9 [.pointer (some ⟨X, 7, none⟩), .agg #[.string r.id, .int .u32 r.idx, .int .i64 r.val, .int .i64 r.br, .int .u16 r.tag, .int .u16 r.delay, .int .u32 r.height, .int .i64 r.dead], .pointer (some ⟨X, 15, none⟩), .int .i64 r.budget, .pointer (some ⟨X, 16, none⟩), .int .i64 r.start, .pointer (some ⟨X + 1 + 1, 7, none⟩), undef, .pointer (some ⟨X + 1 + 1, 15, none⟩), undef, .pointer (some ⟨X + 1 + 1, 16, none⟩), undef]) (W9 X r #[.int .i64 r.kind, .int .i64 r.num, .int .u32 r.tx.ver, .slice ia n1 ic, .slice oa n2 oc, .int .u32 r.tx.lock, .int .i64 r.index, .string r.id, .int .u32 r.idx, .int .i64 r.val, .int .i64 r.br, .int .u16 r.tag, .int .u16 r.delay, .int .u32 r.height, .int .i64 r.dead, .int .i64 r.budget, .int .i64 r.start, .int .i64 r.fee] w0) L ox ax wr wr 2 (.pointer (some ⟨X, 15, none⟩))
      refine kk _ _ _ ?_ ?_ ?_
      · kernel_rfl
      · exact rfl
      · exact hw.add 2 (by decide) (by decide) (by decide)
    | 3, ho =>
      obtain rfl := Option.some.inj ho
      have h_2 : x2 = .pointer (some ⟨X, 15, none⟩) := hmd.rel 2 (hpre 2 (by kernel_rfl))
      subst h_2
      have kk := fun lx ox ax => @vstep_run Tryz.prog lx [x0, x1, (.pointer (some ⟨X, 15, none⟩)), x3, x4, x5, x6, x7, x8, x9, x10, x11] (RL9 [.pointer (some ⟨X, 7, none⟩), .agg #[.string r.id, .int .u32 r.idx, .int .i64 r.val, .int .i64 r.br, .int .u16 r.tag, .int .u16 r.delay, .int .u32 r.height, .int .i64 r.dead], .pointer (some ⟨X, 15, none⟩), .int .i64 r.budget, .pointer (some ⟨X, 16, none⟩), .int .i64 r.start, .pointer (some ⟨X + 1 + 1, 7, none⟩), undef, .pointer (some ⟨X + 1 + 1, 15, none⟩), undef, .pointer (some ⟨X + 1 + 1, 16, none⟩), undef]) (W9 X r #[.int .i64 r.kind, .int .i64 r.num, .int .u32 r.tx.ver, .slice ia n1 ic, .slice oa n2 oc, .int .u32 r.tx.lock, .int .i64 r.index, .string r.id, .int .u32 r.idx, .int .i64 r.val, .int .i64 r.br, .int .u16 r.tag, .int .u16 r.delay, .int .u32 r.height, .int .i64 r.dead, .int .i64 r.budget, .int .i64 r.start, .int .i64 r.fee] w0) L ox ax wr wr 3 (.int .i64 r.budget)
      refine kk _ _ _ ?_ ?_ ?_
      · (have x15_ : wr.cell? ⟨X, 15, none⟩ = some (.int .i64 r.budget) := cell_at hw.src; simp [putAll, execOp, go_sem, x15_])
      · exact rfl
      · exact hw.add 3 (by decide) (by decide) (by decide)
    | 4, ho =>
      obtain rfl := Option.some.inj ho
      have kk := fun lx ox ax => @vstep_run Tryz.prog lx [x0, x1, x2, x3, x4, x5, x6, x7, x8, x9, x10, x11] (RL9 [.pointer (some ⟨X, 7, none⟩), .agg #[.string r.id, .int .u32 r.idx, .int .i64 r.val, .int .i64 r.br, .int .u16 r.tag, .int .u16 r.delay, .int .u32 r.height, .int .i64 r.dead], .pointer (some ⟨X, 15, none⟩), .int .i64 r.budget, .pointer (some ⟨X, 16, none⟩), .int .i64 r.start, .pointer (some ⟨X + 1 + 1, 7, none⟩), undef, .pointer (some ⟨X + 1 + 1, 15, none⟩), undef, .pointer (some ⟨X + 1 + 1, 16, none⟩), undef]) (W9 X r #[.int .i64 r.kind, .int .i64 r.num, .int .u32 r.tx.ver, .slice ia n1 ic, .slice oa n2 oc, .int .u32 r.tx.lock, .int .i64 r.index, .string r.id, .int .u32 r.idx, .int .i64 r.val, .int .i64 r.br, .int .u16 r.tag, .int .u16 r.delay, .int .u32 r.height, .int .i64 r.dead, .int .i64 r.budget, .int .i64 r.start, .int .i64 r.fee] w0) L ox ax wr wr 4 (.pointer (some ⟨X, 16, none⟩))
      refine kk _ _ _ ?_ ?_ ?_
      · kernel_rfl
      · exact rfl
      · exact hw.add 4 (by decide) (by decide) (by decide)
    | 5, ho =>
      obtain rfl := Option.some.inj ho
      have h_4 : x4 = .pointer (some ⟨X, 16, none⟩) := hmd.rel 4 (hpre 4 (by kernel_rfl))
      subst h_4
      have kk := fun lx ox ax => @vstep_run Tryz.prog lx [x0, x1, x2, x3, (.pointer (some ⟨X, 16, none⟩)), x5, x6, x7, x8, x9, x10, x11] (RL9 [.pointer (some ⟨X, 7, none⟩), .agg #[.string r.id, .int .u32 r.idx, .int .i64 r.val, .int .i64 r.br, .int .u16 r.tag, .int .u16 r.delay, .int .u32 r.height, .int .i64 r.dead], .pointer (some ⟨X, 15, none⟩), .int .i64 r.budget, .pointer (some ⟨X, 16, none⟩), .int .i64 r.start, .pointer (some ⟨X + 1 + 1, 7, none⟩), undef, .pointer (some ⟨X + 1 + 1, 15, none⟩), undef, .pointer (some ⟨X + 1 + 1, 16, none⟩), undef]) (W9 X r #[.int .i64 r.kind, .int .i64 r.num, .int .u32 r.tx.ver, .slice ia n1 ic, .slice oa n2 oc, .int .u32 r.tx.lock, .int .i64 r.index, .string r.id, .int .u32 r.idx, .int .i64 r.val, .int .i64 r.br, .int .u16 r.tag, .int .u16 r.delay, .int .u32 r.height, .int .i64 r.dead, .int .i64 r.budget, .int .i64 r.start, .int .i64 r.fee] w0) L ox ax wr wr 5 (.int .i64 r.start)
      refine kk _ _ _ ?_ ?_ ?_
      · (have x16_ : wr.cell? ⟨X, 16, none⟩ = some (.int .i64 r.start) := cell_at hw.src; simp [putAll, execOp, go_sem, x16_])
      · exact rfl
      · exact hw.add 5 (by decide) (by decide) (by decide)
    | 6, ho =>
      obtain rfl := Option.some.inj ho
      have kk := fun lx ox ax => @vstep_run Tryz.prog lx [x0, x1, x2, x3, x4, x5, x6, x7, x8, x9, x10, x11] (RL9 [.pointer (some ⟨X, 7, none⟩), .agg #[.string r.id, .int .u32 r.idx, .int .i64 r.val, .int .i64 r.br, .int .u16 r.tag, .int .u16 r.delay, .int .u32 r.height, .int .i64 r.dead], .pointer (some ⟨X, 15, none⟩), .int .i64 r.budget, .pointer (some ⟨X, 16, none⟩), .int .i64 r.start, .pointer (some ⟨X + 1 + 1, 7, none⟩), undef, .pointer (some ⟨X + 1 + 1, 15, none⟩), undef, .pointer (some ⟨X + 1 + 1, 16, none⟩), undef]) (W9 X r #[.int .i64 r.kind, .int .i64 r.num, .int .u32 r.tx.ver, .slice ia n1 ic, .slice oa n2 oc, .int .u32 r.tx.lock, .int .i64 r.index, .string r.id, .int .u32 r.idx, .int .i64 r.val, .int .i64 r.br, .int .u16 r.tag, .int .u16 r.delay, .int .u32 r.height, .int .i64 r.dead, .int .i64 r.budget, .int .i64 r.start, .int .i64 r.fee] w0) L ox ax wr wr 6 (.pointer (some ⟨X + 1 + 1, 7, none⟩))
      refine kk _ _ _ ?_ ?_ ?_
      · kernel_rfl
      · exact rfl
      · exact hw.add 6 (by decide) (by decide) (by decide)
    | 7, ho =>
      obtain rfl := Option.some.inj ho
      have h_6 : x6 = .pointer (some ⟨X + 1 + 1, 7, none⟩) := hmd.rel 6 (hpre 6 (by kernel_rfl))
      subst h_6
      have h_1 : x1 = .agg #[.string r.id, .int .u32 r.idx, .int .i64 r.val, .int .i64 r.br, .int .u16 r.tag, .int .u16 r.delay, .int .u32 r.height, .int .i64 r.dead] := hmd.rel 1 (hpre 1 (by kernel_rfl))
      subst h_1
      have kk := fun lx ox ax => @vstep_skip Tryz.prog lx [x0, (.agg #[.string r.id, .int .u32 r.idx, .int .i64 r.val, .int .i64 r.br, .int .u16 r.tag, .int .u16 r.delay, .int .u32 r.height, .int .i64 r.dead]), x2, x3, x4, x5, (.pointer (some ⟨X + 1 + 1, 7, none⟩)), x7, x8, x9, x10, x11] (RL9 [.pointer (some ⟨X, 7, none⟩), .agg #[.string r.id, .int .u32 r.idx, .int .i64 r.val, .int .i64 r.br, .int .u16 r.tag, .int .u16 r.delay, .int .u32 r.height, .int .i64 r.dead], .pointer (some ⟨X, 15, none⟩), .int .i64 r.budget, .pointer (some ⟨X, 16, none⟩), .int .i64 r.start, .pointer (some ⟨X + 1 + 1, 7, none⟩), undef, .pointer (some ⟨X + 1 + 1, 15, none⟩), undef, .pointer (some ⟨X + 1 + 1, 16, none⟩), undef]) (W9 X r #[.int .i64 r.kind, .int .i64 r.num, .int .u32 r.tx.ver, .slice ia n1 ic, .slice oa n2 oc, .int .u32 r.tx.lock, .int .i64 r.index, .string r.id, .int .u32 r.idx, .int .i64 r.val, .int .i64 r.br, .int .u16 r.tag, .int .u16 r.delay, .int .u32 r.height, .int .i64 r.dead, .int .i64 r.budget, .int .i64 r.start, .int .i64 r.fee] w0) L ox ax wr (stores wr (X + 1 + 1) [(7, .string r.id), (8, .int .u32 r.idx), (9, .int .i64 r.val), (10, .int .i64 r.br), (11, .int .u16 r.tag), (12, .int .u16 r.delay), (13, .int .u32 r.height), (14, .int .i64 r.dead)]) 7
      refine kk _ _ _ ?_ ?_ ?_
      · (have f7 := hw.free 7; obtain ⟨v7, g7⟩ := hw.has 7 (by decide); have f8 := hw.free 8; obtain ⟨v8, g8⟩ := hw.has 8 (by decide); have f9 := hw.free 9; obtain ⟨v9, g9⟩ := hw.has 9 (by decide); have f10 := hw.free 10; obtain ⟨v10, g10⟩ := hw.has 10 (by decide); have f11 := hw.free 11; obtain ⟨v11, g11⟩ := hw.has 11 (by decide); have f12 := hw.free 12; obtain ⟨v12, g12⟩ := hw.has 12 (by decide); have f13 := hw.free 13; obtain ⟨v13, g13⟩ := hw.has 13 (by decide); have f14 := hw.free 14; obtain ⟨v14, g14⟩ := hw.has 14 (by decide); simp [putAll, execOp, go_sem, stores, f7, g7, f8, g8, f9, g9, f10, g10, f11, g11, f12, g12, f13, g13, f14, g14])
      · exact rfl
      · exact hw.st7 hni
    | 8, ho =>
      obtain rfl := Option.some.inj ho
      have kk := fun lx ox ax => @vstep_run Tryz.prog lx [x0, x1, x2, x3, x4, x5, x6, x7, x8, x9, x10, x11] (RL9 [.pointer (some ⟨X, 7, none⟩), .agg #[.string r.id, .int .u32 r.idx, .int .i64 r.val, .int .i64 r.br, .int .u16 r.tag, .int .u16 r.delay, .int .u32 r.height, .int .i64 r.dead], .pointer (some ⟨X, 15, none⟩), .int .i64 r.budget, .pointer (some ⟨X, 16, none⟩), .int .i64 r.start, .pointer (some ⟨X + 1 + 1, 7, none⟩), undef, .pointer (some ⟨X + 1 + 1, 15, none⟩), undef, .pointer (some ⟨X + 1 + 1, 16, none⟩), undef]) (W9 X r #[.int .i64 r.kind, .int .i64 r.num, .int .u32 r.tx.ver, .slice ia n1 ic, .slice oa n2 oc, .int .u32 r.tx.lock, .int .i64 r.index, .string r.id, .int .u32 r.idx, .int .i64 r.val, .int .i64 r.br, .int .u16 r.tag, .int .u16 r.delay, .int .u32 r.height, .int .i64 r.dead, .int .i64 r.budget, .int .i64 r.start, .int .i64 r.fee] w0) L ox ax wr wr 8 (.pointer (some ⟨X + 1 + 1, 15, none⟩))
      refine kk _ _ _ ?_ ?_ ?_
      · kernel_rfl
      · exact rfl
      · exact hw.add 8 (by decide) (by decide) (by decide)
    | 9, ho =>
      obtain rfl := Option.some.inj ho
      have h_8 : x8 = .pointer (some ⟨X + 1 + 1, 15, none⟩) := hmd.rel 8 (hpre 8 (by kernel_rfl))
      subst h_8
      have h_3 : x3 = .int .i64 r.budget := hmd.rel 3 (hpre 3 (by kernel_rfl))
      subst h_3
      have kk := fun lx ox ax => @vstep_skip Tryz.prog lx [x0, x1, x2, (.int .i64 r.budget), x4, x5, x6, x7, (.pointer (some ⟨X + 1 + 1, 15, none⟩)), x9, x10, x11] (RL9 [.pointer (some ⟨X, 7, none⟩), .agg #[.string r.id, .int .u32 r.idx, .int .i64 r.val, .int .i64 r.br, .int .u16 r.tag, .int .u16 r.delay, .int .u32 r.height, .int .i64 r.dead], .pointer (some ⟨X, 15, none⟩), .int .i64 r.budget, .pointer (some ⟨X, 16, none⟩), .int .i64 r.start, .pointer (some ⟨X + 1 + 1, 7, none⟩), undef, .pointer (some ⟨X + 1 + 1, 15, none⟩), undef, .pointer (some ⟨X + 1 + 1, 16, none⟩), undef]) (W9 X r #[.int .i64 r.kind, .int .i64 r.num, .int .u32 r.tx.ver, .slice ia n1 ic, .slice oa n2 oc, .int .u32 r.tx.lock, .int .i64 r.index, .string r.id, .int .u32 r.idx, .int .i64 r.val, .int .i64 r.br, .int .u16 r.tag, .int .u16 r.delay, .int .u32 r.height, .int .i64 r.dead, .int .i64 r.budget, .int .i64 r.start, .int .i64 r.fee] w0) L ox ax wr (stores wr (X + 1 + 1) [(15, .int .i64 r.budget)]) 9
      refine kk _ _ _ ?_ ?_ ?_
      · (have f15 := hw.free 15; obtain ⟨v15, g15⟩ := hw.has 15 (by decide); simp [putAll, execOp, go_sem, stores, f15, g15])
      · exact rfl
      · exact hw.st9 hni
    | 10, ho =>
      obtain rfl := Option.some.inj ho
      have kk := fun lx ox ax => @vstep_run Tryz.prog lx [x0, x1, x2, x3, x4, x5, x6, x7, x8, x9, x10, x11] (RL9 [.pointer (some ⟨X, 7, none⟩), .agg #[.string r.id, .int .u32 r.idx, .int .i64 r.val, .int .i64 r.br, .int .u16 r.tag, .int .u16 r.delay, .int .u32 r.height, .int .i64 r.dead], .pointer (some ⟨X, 15, none⟩), .int .i64 r.budget, .pointer (some ⟨X, 16, none⟩), .int .i64 r.start, .pointer (some ⟨X + 1 + 1, 7, none⟩), undef, .pointer (some ⟨X + 1 + 1, 15, none⟩), undef, .pointer (some ⟨X + 1 + 1, 16, none⟩), undef]) (W9 X r #[.int .i64 r.kind, .int .i64 r.num, .int .u32 r.tx.ver, .slice ia n1 ic, .slice oa n2 oc, .int .u32 r.tx.lock, .int .i64 r.index, .string r.id, .int .u32 r.idx, .int .i64 r.val, .int .i64 r.br, .int .u16 r.tag, .int .u16 r.delay, .int .u32 r.height, .int .i64 r.dead, .int .i64 r.budget, .int .i64 r.start, .int .i64 r.fee] w0) L ox ax wr wr 10 (.pointer (some ⟨X + 1 + 1, 16, none⟩))
      refine kk _ _ _ ?_ ?_ ?_
      · kernel_rfl
      · exact rfl
      · exact hw.add 10 (by decide) (by decide) (by decide)
    | 11, ho =>
      obtain rfl := Option.some.inj ho
      have h_10 : x10 = .pointer (some ⟨X + 1 + 1, 16, none⟩) := hmd.rel 10 (hpre 10 (by kernel_rfl))
      subst h_10
      have h_5 : x5 = .int .i64 r.start := hmd.rel 5 (hpre 5 (by kernel_rfl))
      subst h_5
      have kk := fun lx ox ax => @vstep_skip Tryz.prog lx [x0, x1, x2, x3, x4, (.int .i64 r.start), x6, x7, x8, x9, (.pointer (some ⟨X + 1 + 1, 16, none⟩)), x11] (RL9 [.pointer (some ⟨X, 7, none⟩), .agg #[.string r.id, .int .u32 r.idx, .int .i64 r.val, .int .i64 r.br, .int .u16 r.tag, .int .u16 r.delay, .int .u32 r.height, .int .i64 r.dead], .pointer (some ⟨X, 15, none⟩), .int .i64 r.budget, .pointer (some ⟨X, 16, none⟩), .int .i64 r.start, .pointer (some ⟨X + 1 + 1, 7, none⟩), undef, .pointer (some ⟨X + 1 + 1, 15, none⟩), undef, .pointer (some ⟨X + 1 + 1, 16, none⟩), undef]) (W9 X r #[.int .i64 r.kind, .int .i64 r.num, .int .u32 r.tx.ver, .slice ia n1 ic, .slice oa n2 oc, .int .u32 r.tx.lock, .int .i64 r.index, .string r.id, .int .u32 r.idx, .int .i64 r.val, .int .i64 r.br, .int .u16 r.tag, .int .u16 r.delay, .int .u32 r.height, .int .i64 r.dead, .int .i64 r.budget, .int .i64 r.start, .int .i64 r.fee] w0) L ox ax wr (stores wr (X + 1 + 1) [(16, .int .i64 r.start)]) 11
      refine kk _ _ _ ?_ ?_ ?_
      · (have f16 := hw.free 16; obtain ⟨v16, g16⟩ := hw.has 16 (by decide); simp [putAll, execOp, go_sem, stores, f16, g16])
      · exact rfl
      · exact hw.st11 hni
    | q + 12, ho => exact absurd (List.getElem?_eq_some_iff.1 ho).1 (by simp)
  · intro xs wr hmd hw
    obtain ⟨x0, x1, x2, x3, x4, x5, x6, x7, x8, x9, x10, x11, rfl⟩ : ∃ x0 x1 x2 x3 x4 x5 x6 x7 x8 x9 x10 x11, xs = [x0, x1, x2, x3, x4, x5, x6, x7, x8, x9, x10, x11] := by match xs, hmd.len with | [x0, x1, x2, x3, x4, x5, x6, x7, x8, x9, x10, x11], _ => exact ⟨_, _, _, _, _, _, _, _, _, _, _, _, rfl⟩
    simp only [putAll]
    obtain rfl : x0 = .pointer (some ⟨X, 7, none⟩) := hmd.rel 0 (by decide)
    obtain rfl : x1 = .agg #[.string r.id, .int .u32 r.idx, .int .i64 r.val, .int .i64 r.br, .int .u16 r.tag, .int .u16 r.delay, .int .u32 r.height, .int .i64 r.dead] := hmd.rel 1 (by decide)
    obtain rfl : x2 = .pointer (some ⟨X, 15, none⟩) := hmd.rel 2 (by decide)
    obtain rfl : x3 = .int .i64 r.budget := hmd.rel 3 (by decide)
    obtain rfl : x4 = .pointer (some ⟨X, 16, none⟩) := hmd.rel 4 (by decide)
    obtain rfl : x5 = .int .i64 r.start := hmd.rel 5 (by decide)
    obtain rfl : x6 = .pointer (some ⟨X + 1 + 1, 7, none⟩) := hmd.rel 6 (by decide)
    obtain rfl : x7 = undef := hmd.rel 7 (by decide)
    obtain rfl : x8 = .pointer (some ⟨X + 1 + 1, 15, none⟩) := hmd.rel 8 (by decide)
    obtain rfl : x9 = undef := hmd.rel 9 (by decide)
    obtain rfl : x10 = .pointer (some ⟨X + 1 + 1, 16, none⟩) := hmd.rel 10 (by decide)
    obtain rfl : x11 = undef := hmd.rel 11 (by decide)
    have HWR := hid (show wr.heap[X + 1 + 1]? = some (.cells #[.int .i64 r.kind, .int .i64 r.num, .int .u32 0, .slice none 0 0, .slice none 0 0, .int .u32 0, .int .i64 0, .string r.id, .int .u32 r.idx, .int .i64 r.val, .int .i64 r.br, .int .u16 r.tag, .int .u16 r.delay, .int .u32 r.height, .int .i64 r.dead, .int .i64 r.budget, .int .i64 r.start, .int .i64 0] 35 (0, 0)) from by
      exact hw.all)
    have HF9 := hid hw.fr
    have HZ2o := HZ2.out
    have hXX := HX.out
    have HZ1 := hid ((HF9.out.block (X + 1) (Array.getElem?_eq_some_iff.1 HZ1.out).1 (by simp)).trans HZ1.out)
    have HB := hid (HB.out.trans (HF9.out.below HB.out.size (by intro k hk; simp at hk; omega)))
    have HZ2 := HWR
    clear hmd hw HWR HF9 HZ2o hXX HZ0 HW9
    refine Eq.mpr (congrArg (fun q => Exit.inBlock 0 (Exit.then _ _) Exit.normal q wr) (show _ = ({ tmps := #[.agg #[.int .i64 r.kind, .int .i64 r.num, .int .u32 r.tx.ver, .slice ia n1 ic, .slice oa n2 oc, .int .u32 r.tx.lock, .int .i64 r.index, .string r.id, .int .u32 r.idx, .int .i64 r.val, .int .i64 r.br, .int .u16 r.tag, .int .u16 r.delay, .int .u32 r.height, .int .i64 r.dead, .int .i64 r.budget, .int .i64 r.start, .int .i64 r.fee], .pointer (some ⟨X, 0, none⟩), .pointer (some ⟨X + 1, 0, none⟩), .bool false, .pointer (some ⟨X + 1 + 1, 0, none⟩), .pointer (some ⟨X, 0, none⟩), .int .i64 r.kind, .pointer (some ⟨X, 1, none⟩), .int .i64 r.num, .agg #[.int .i64 r.kind, .int .i64 r.num, .int .u32 0, .slice none 0 0, .slice none 0 0, .int .u32 0, .int .i64 0, .string ⟨#[]⟩, .int .u32 0, .int .i64 0, .int .i64 0, .int .u16 0, .int .u16 0, .int .u32 0, .int .i64 0, .int .i64 0, .int .i64 0, .int .i64 0], .pointer (some ⟨X, 0, none⟩), .int .i64 r.kind, undef, .bool false, .bool false, undef, undef, undef, undef, undef, undef, undef, undef, undef, undef, undef, undef, undef, undef, undef, undef, undef, undef, undef, undef, undef, undef, undef, undef, undef, undef, undef, .bool true, .bool true, .pointer (some ⟨X, 7, none⟩), .agg #[.string r.id, .int .u32 r.idx, .int .i64 r.val, .int .i64 r.br, .int .u16 r.tag, .int .u16 r.delay, .int .u32 r.height, .int .i64 r.dead], .pointer (some ⟨X, 15, none⟩), .int .i64 r.budget, .pointer (some ⟨X, 16, none⟩), .int .i64 r.start, .pointer (some ⟨X + 1 + 1, 7, none⟩), .pointer (some ⟨X + 1 + 1, 15, none⟩), .pointer (some ⟨X + 1 + 1, 16, none⟩), undef, undef, undef, undef, undef, undef, undef, undef, undef, undef, undef, undef, undef, undef, undef, undef, undef, undef, undef, undef, undef, undef, undef], defers := [] } : Act) from ?hfr)) ?_
    case hfr => kernel_rfl
    have hz2 := HZ2.out
    have hz1 := HZ1.out
    obtain ⟨wf, hwf⟩ : ∃ wf, wf = wr.setRow (X + 1) #[.int .i64 r.kind, .int .i64 r.num, .int .u32 0, .slice none 0 0, .slice none 0 0, .int .u32 0, .int .i64 0, .string r.id, .int .u32 r.idx, .int .i64 r.val, .int .i64 r.br, .int .u16 r.tag, .int .u16 r.delay, .int .u32 r.height, .int .i64 r.dead, .int .i64 r.budget, .int .i64 r.start, .int .i64 0] := ⟨_, rfl⟩
    have HZ3 := hid (show wf.heap[X + 1]? = some (.cells #[.int .i64 r.kind, .int .i64 r.num, .int .u32 0, .slice none 0 0, .slice none 0 0, .int .u32 0, .int .i64 0, .string r.id, .int .u32 r.idx, .int .i64 r.val, .int .i64 r.br, .int .u16 r.tag, .int .u16 r.delay, .int .u32 r.height, .int .i64 r.dead, .int .i64 r.budget, .int .i64 r.start, .int .i64 0] 35 (0, 0)) from hwf ▸ setRow_heap wr (X + 1) _ _ _ _ HZ1.out)
    have HB := hid (show Below w.heap.size w wf from hwf ▸ below_rowE HB.out (by have := HX.out; omega) _)
    go_upto_region 15 with fail
    go_wp2_with (first
      | (refine wpList_load_row rfl 35 (.tmp 4) rfl (X + 1 + 1) rfl 35 #[.int .i64 r.kind, .int .i64 r.num, .int .u32 0, .slice none 0 0, .slice none 0 0, .int .u32 0, .int .i64 0, .string r.id, .int .u32 r.idx, .int .i64 r.val, .int .i64 r.br, .int .u16 r.tag, .int .u16 r.delay, .int .u32 r.height, .int .i64 r.dead, .int .i64 r.budget, .int .i64 r.start, .int .i64 0] (0, 0) _ hz2 Tryz.underlying35 rfl (by kernel_rfl) ?_)
      | (refine wpList_store_row rfl 35 (.tmp 2) (.tmp 75) rfl (X + 1) #[.int .i64 r.kind, .int .i64 r.num, .int .u32 0, .slice none 0 0, .slice none 0 0, .int .u32 0, .int .i64 0, .string r.id, .int .u32 r.idx, .int .i64 r.val, .int .i64 r.br, .int .u16 r.tag, .int .u16 r.delay, .int .u32 r.height, .int .i64 r.dead, .int .i64 r.budget, .int .i64 r.start, .int .i64 0] rfl rfl 35 _ hz1 (by kernel_rfl) rfl (by kernel_rfl) ?_; rw [← hwf]))
    try rw [← hwf]
    clear hz2 hz1 hwf HZ2 HZ1
    refine bodyPost_ret (v := .tuple #[.agg #[.int .i64 r.kind, .int .i64 r.num, .int .u32 0, .slice none 0 0, .slice none 0 0, .int .u32 0, .int .i64 0, .string r.id, .int .u32 r.idx, .int .i64 r.val, .int .i64 r.br, .int .u16 r.tag, .int .u16 r.delay, .int .u32 r.height, .int .i64 r.dead, .int .i64 r.budget, .int .i64 r.start, .int .i64 0], .bool true]) (results_cell_tmp (P := Tryz.prog) (p := 2) (q := 3) (ty := 35) Tryz.results45 _ _ (X + 1) 35 #[.int .i64 r.kind, .int .i64 r.num, .int .u32 0, .slice none 0 0, .slice none 0 0, .int .u32 0, .int .i64 0, .string r.id, .int .u32 r.idx, .int .i64 r.val, .int .i64 r.br, .int .u16 r.tag, .int .u16 r.delay, .int .u32 r.height, .int .i64 r.dead, .int .i64 r.budget, .int .i64 r.start, .int .i64 0] (0, 0) _ _ rfl rfl HZ3.out Tryz.underlying35 rfl (by kernel_rfl)) rfl ?_
    have HOW := hid (show ownR r = _ from by unfold ownR; rw [if_neg (by have := HKK.out; omega), if_pos HKK.out])
    have hok := HK.out
    rw [HOW.out] at hok ⊢
    have hkb := HKB.out
    rw [decide_eq_true (by have := HKK.out; omega)] at hkb
    rw [hkb]
    exact ⟨_, rfl, ⟨_, _, rfl, slin_nil _, slout_nil _, hok⟩, HB.out⟩
end Go.Proofs.YtaooibocknemkaaGreat
end

section
namespace Go.Proofs.YtaooibocknemkaaGreat
open Go.RowKit Go.BigFrame
open Go.Lib (hid)
set_option linter.unusedVariables false
set_option linter.unusedSimpArgs false
set_option maxRecDepth 100000 in
set_option maxHeartbeats 8000000 in
theorem plain_k3 (v1 : Value) (r : PRec) (w : World) (h1 : RecAt w v1 r) (hk : r.kind = 3) : Calls Tryz.prog 45 #[v1] w (PlainP (ownR r) (decide (1 ≤ r.kind ∧ r.kind ≤ 5)) w) := by
  obtain ⟨va, vb, rfl, hi1, ho1, hk1⟩ := h1
  have HI := hid hi1
  have HO := hid ho1
  have HK := hid (ownR_ok hk1)
  obtain ⟨ia, ic, rfl, -, -⟩ := hi1.shape
  obtain ⟨oa, oc, rfl, -, -⟩ := ho1.shape
  obtain ⟨n1, hn1⟩ : ∃ n, n = r.tx.ins.length := ⟨_, rfl⟩
  obtain ⟨n2, hn2⟩ : ∃ n, n = r.tx.outs.length := ⟨_, rfl⟩
  rw [← hn1, ← hn2]
  rw [← hn1] at HI
  rw [← hn2] at HO
  clear hn1 hn2 hi1 ho1 hk1
  obtain ⟨kb, hkb⟩ : ∃ kb, kb = decide (1 ≤ r.kind ∧ r.kind ≤ 5) := ⟨_, rfl⟩
  rw [← hkb]
  have HKB := hid hkb
  clear hkb
  obtain ⟨X, hX⟩ : ∃ q, q = w.heap.size := ⟨_, rfl⟩
  obtain ⟨hz2, hy0, hy1, hy2, hal⟩ := box3 w X hX #[.int .i64 r.kind, .int .i64 r.num, .int .u32 r.tx.ver, .slice ia n1 ic, .slice oa n2 oc, .int .u32 r.tx.lock, .int .i64 r.index, .string r.id, .int .u32 r.idx, .int .i64 r.val, .int .i64 r.br, .int .u16 r.tag, .int .u16 r.delay, .int .u32 r.height, .int .i64 r.dead, .int .i64 r.budget, .int .i64 r.start, .int .i64 r.fee] #[.int .i64 0, .int .i64 0, .int .u32 0, .slice none 0 0, .slice none 0 0, .int .u32 0, .int .i64 0, .string ⟨#[]⟩, .int .u32 0, .int .i64 0, .int .i64 0, .int .u16 0, .int .u16 0, .int .u32 0, .int .i64 0, .int .i64 0, .int .i64 0, .int .i64 0] #[.int .i64 0, .int .i64 0, .int .u32 0, .slice none 0 0, .slice none 0 0, .int .u32 0, .int .i64 0, .string ⟨#[]⟩, .int .u32 0, .int .i64 0, .int .i64 0, .int .u16 0, .int .u16 0, .int .u32 0, .int .i64 0, .int .i64 0, .int .i64 0, .int .i64 0] #[.int .i64 r.kind, .int .i64 r.num, .int .u32 0, .slice none 0 0, .slice none 0 0, .int .u32 0, .int .i64 0, .string ⟨#[]⟩, .int .u32 0, .int .i64 0, .int .i64 0, .int .u16 0, .int .u16 0, .int .u32 0, .int .i64 0, .int .i64 0, .int .i64 0, .int .i64 0] 35
  have HN2 := hid hz2
  have HZ0 := hid hy0
  have HZ1 := hid hy1
  have HZ2 := hid hy2
  have HB := hid hal
  have HX := hid hX
  clear hz2 hy0 hy1 hy2 hal hX
  have HKK := hid hk
  have c1 : (r.kind == 1) = false := by rw [beq_eq_false_iff_ne]; omega
  have c2 : (r.kind == 2) = false := by rw [beq_eq_false_iff_ne]; omega
  have c3 : (r.kind == 3) = true := by rw [beq_iff_eq]; exact hk
  clear hk
  go_enter Tryz.func45, Tryz.ntmps45
  go_upto_region 2 with (refine wpList_store_row rfl 35 (.tmp 4) (.tmp 9) rfl (X + 1 + 1) #[.int .i64 r.kind, .int .i64 r.num, .int .u32 0, .slice none 0 0, .slice none 0 0, .int .u32 0, .int .i64 0, .string ⟨#[]⟩, .int .u32 0, .int .i64 0, .int .i64 0, .int .u16 0, .int .u16 0, .int .u32 0, .int .i64 0, .int .i64 0, .int .i64 0, .int .i64 0] (by rw [HX.out]; rfl) rfl 35 _ HN2.out (by kernel_rfl) rfl (by kernel_rfl) ?_)
  rw [← HX.out]
  generalize World.setRow _ (X + 1 + 1) #[.int .i64 r.kind, .int .i64 r.num, .int .u32 0, .slice none 0 0, .slice none 0 0, .int .u32 0, .int .i64 0, .string ⟨#[]⟩, .int .u32 0, .int .i64 0, .int .i64 0, .int .u16 0, .int .u16 0, .int .u32 0, .int .i64 0, .int .i64 0, .int .i64 0, .int .i64 0] = w0 at *
  clear HN2
  have x0 : w0.cell? ⟨X, 0, none⟩ = some (.int .i64 r.kind) := cell_at HZ0.out
  have x7 : w0.cell? ⟨X, 7, none⟩ = some (.string r.id) := cell_at HZ0.out
  have x8 : w0.cell? ⟨X, 8, none⟩ = some (.int .u32 r.idx) := cell_at HZ0.out
  have y7 : w0.cell? ⟨X + 1 + 1, 7, none⟩ = some (.string ⟨#[]⟩) := cell_at HZ2.out
  have y8 : w0.cell? ⟨X + 1 + 1, 8, none⟩ = some (.int .u32 0) := cell_at HZ2.out
  have f7 : w0.frozen? ⟨X + 1 + 1, 7, none⟩ = false := free_at HZ2.out
  have f8 : w0.frozen? ⟨X + 1 + 1, 8, none⟩ = false := free_at HZ2.out
  go_upto_region 15 with fail
  change Code.wp _ _ _ _ (stores w0 (X + 1 + 1) [(7, .string r.id), (8, .int .u32 r.idx)])
  obtain ⟨s1, s2, s3⟩ := stores_spec [(7, .string r.id), (8, .int .u32 r.idx)] HZ2.out
  have HZ0 := hid ((s2 X (by omega)).trans HZ0.out)
  have HZ1 := hid ((s2 (X + 1) (by omega)).trans HZ1.out)
  have HZ2 := hid (show (stores w0 (X + 1 + 1) [(7, .string r.id), (8, .int .u32 r.idx)]).heap[X + 1 + 1]? = some (.cells #[.int .i64 r.kind, .int .i64 r.num, .int .u32 0, .slice none 0 0, .slice none 0 0, .int .u32 0, .int .i64 0, .string r.id, .int .u32 r.idx, .int .i64 0, .int .i64 0, .int .u16 0, .int .u16 0, .int .u32 0, .int .i64 0, .int .i64 0, .int .i64 0, .int .i64 0] 35 (0, 0)) from s1)
  have HB := hid (HB.out.trans (s3 w.heap.size (by have := HX.out; omega)))
  clear s1 s2 s3 x7 y7 f7 x8 y8 f8
  generalize stores w0 (X + 1 + 1) [(7, .string r.id), (8, .int .u32 r.idx)] = w1 at *
  clear x0
  have hz2 := HZ2.out
  have hz1 := HZ1.out
  obtain ⟨wf, hwf⟩ : ∃ wf, wf = w1.setRow (X + 1) #[.int .i64 r.kind, .int .i64 r.num, .int .u32 0, .slice none 0 0, .slice none 0 0, .int .u32 0, .int .i64 0, .string r.id, .int .u32 r.idx, .int .i64 0, .int .i64 0, .int .u16 0, .int .u16 0, .int .u32 0, .int .i64 0, .int .i64 0, .int .i64 0, .int .i64 0] := ⟨_, rfl⟩
  have HZ3 := hid (show wf.heap[X + 1]? = some (.cells #[.int .i64 r.kind, .int .i64 r.num, .int .u32 0, .slice none 0 0, .slice none 0 0, .int .u32 0, .int .i64 0, .string r.id, .int .u32 r.idx, .int .i64 0, .int .i64 0, .int .u16 0, .int .u16 0, .int .u32 0, .int .i64 0, .int .i64 0, .int .i64 0, .int .i64 0] 35 (0, 0)) from hwf ▸ setRow_heap w1 (X + 1) _ _ _ _ HZ1.out)
  have HB := hid (show Below w.heap.size w wf from hwf ▸ below_rowE HB.out (by have := HX.out; omega) _)
  go_upto_region 15 with fail
  go_wp2_with (first
    | (refine wpList_load_row rfl 35 (.tmp 4) rfl (X + 1 + 1) rfl 35 #[.int .i64 r.kind, .int .i64 r.num, .int .u32 0, .slice none 0 0, .slice none 0 0, .int .u32 0, .int .i64 0, .string r.id, .int .u32 r.idx, .int .i64 0, .int .i64 0, .int .u16 0, .int .u16 0, .int .u32 0, .int .i64 0, .int .i64 0, .int .i64 0, .int .i64 0] (0, 0) _ hz2 Tryz.underlying35 rfl (by kernel_rfl) ?_)
    | (refine wpList_store_row rfl 35 (.tmp 2) (.tmp 75) rfl (X + 1) #[.int .i64 r.kind, .int .i64 r.num, .int .u32 0, .slice none 0 0, .slice none 0 0, .int .u32 0, .int .i64 0, .string r.id, .int .u32 r.idx, .int .i64 0, .int .i64 0, .int .u16 0, .int .u16 0, .int .u32 0, .int .i64 0, .int .i64 0, .int .i64 0, .int .i64 0] rfl rfl 35 _ hz1 (by kernel_rfl) rfl (by kernel_rfl) ?_; rw [← hwf]))
  try rw [← hwf]
  clear hz2 hz1 hwf HZ2 HZ1 HZ0
  refine bodyPost_ret (v := .tuple #[.agg #[.int .i64 r.kind, .int .i64 r.num, .int .u32 0, .slice none 0 0, .slice none 0 0, .int .u32 0, .int .i64 0, .string r.id, .int .u32 r.idx, .int .i64 0, .int .i64 0, .int .u16 0, .int .u16 0, .int .u32 0, .int .i64 0, .int .i64 0, .int .i64 0, .int .i64 0], .bool true]) (results_cell_tmp (P := Tryz.prog) (p := 2) (q := 3) (ty := 35) Tryz.results45 _ _ (X + 1) 35 #[.int .i64 r.kind, .int .i64 r.num, .int .u32 0, .slice none 0 0, .slice none 0 0, .int .u32 0, .int .i64 0, .string r.id, .int .u32 r.idx, .int .i64 0, .int .i64 0, .int .u16 0, .int .u16 0, .int .u32 0, .int .i64 0, .int .i64 0, .int .i64 0, .int .i64 0] (0, 0) _ _ rfl rfl HZ3.out Tryz.underlying35 rfl (by kernel_rfl)) rfl ?_
  have HOW := hid (show ownR r = _ from by unfold ownR; rw [if_neg (by have := HKK.out; omega), if_neg (by have := HKK.out; omega), if_pos HKK.out])
  have hok := HK.out
  rw [HOW.out] at hok ⊢
  have hkb := HKB.out
  rw [decide_eq_true (by have := HKK.out; omega)] at hkb
  rw [hkb]
  exact ⟨_, rfl, ⟨_, _, rfl, slin_nil _, slout_nil _, hok⟩, HB.out⟩
set_option maxRecDepth 100000 in
set_option maxHeartbeats 8000000 in
theorem plain_k5 (v1 : Value) (r : PRec) (w : World) (h1 : RecAt w v1 r) (hk : r.kind = 5) : Calls Tryz.prog 45 #[v1] w (PlainP (ownR r) (decide (1 ≤ r.kind ∧ r.kind ≤ 5)) w) := by
  obtain ⟨va, vb, rfl, hi1, ho1, hk1⟩ := h1
  have HI := hid hi1
  have HO := hid ho1
  have HK := hid (ownR_ok hk1)
  obtain ⟨ia, ic, rfl, -, -⟩ := hi1.shape
  obtain ⟨oa, oc, rfl, -, -⟩ := ho1.shape
  obtain ⟨n1, hn1⟩ : ∃ n, n = r.tx.ins.length := ⟨_, rfl⟩
  obtain ⟨n2, hn2⟩ : ∃ n, n = r.tx.outs.length := ⟨_, rfl⟩
  rw [← hn1, ← hn2]
  rw [← hn1] at HI
  rw [← hn2] at HO
  clear hn1 hn2 hi1 ho1 hk1
  obtain ⟨kb, hkb⟩ : ∃ kb, kb = decide (1 ≤ r.kind ∧ r.kind ≤ 5) := ⟨_, rfl⟩
  rw [← hkb]
  have HKB := hid hkb
  clear hkb
  obtain ⟨X, hX⟩ : ∃ q, q = w.heap.size := ⟨_, rfl⟩
  obtain ⟨hz2, hy0, hy1, hy2, hal⟩ := box3 w X hX #[.int .i64 r.kind, .int .i64 r.num, .int .u32 r.tx.ver, .slice ia n1 ic, .slice oa n2 oc, .int .u32 r.tx.lock, .int .i64 r.index, .string r.id, .int .u32 r.idx, .int .i64 r.val, .int .i64 r.br, .int .u16 r.tag, .int .u16 r.delay, .int .u32 r.height, .int .i64 r.dead, .int .i64 r.budget, .int .i64 r.start, .int .i64 r.fee] #[.int .i64 0, .int .i64 0, .int .u32 0, .slice none 0 0, .slice none 0 0, .int .u32 0, .int .i64 0, .string ⟨#[]⟩, .int .u32 0, .int .i64 0, .int .i64 0, .int .u16 0, .int .u16 0, .int .u32 0, .int .i64 0, .int .i64 0, .int .i64 0, .int .i64 0] #[.int .i64 0, .int .i64 0, .int .u32 0, .slice none 0 0, .slice none 0 0, .int .u32 0, .int .i64 0, .string ⟨#[]⟩, .int .u32 0, .int .i64 0, .int .i64 0, .int .u16 0, .int .u16 0, .int .u32 0, .int .i64 0, .int .i64 0, .int .i64 0, .int .i64 0] #[.int .i64 r.kind, .int .i64 r.num, .int .u32 0, .slice none 0 0, .slice none 0 0, .int .u32 0, .int .i64 0, .string ⟨#[]⟩, .int .u32 0, .int .i64 0, .int .i64 0, .int .u16 0, .int .u16 0, .int .u32 0, .int .i64 0, .int .i64 0, .int .i64 0, .int .i64 0] 35
  have HN2 := hid hz2
  have HZ0 := hid hy0
  have HZ1 := hid hy1
  have HZ2 := hid hy2
  have HB := hid hal
  have HX := hid hX
  clear hz2 hy0 hy1 hy2 hal hX
  have HKK := hid hk
  have c1 : (r.kind == 1) = false := by rw [beq_eq_false_iff_ne]; omega
  have c2 : (r.kind == 2) = false := by rw [beq_eq_false_iff_ne]; omega
  have c3 : (r.kind == 3) = false := by rw [beq_eq_false_iff_ne]; omega
  have c4 : (r.kind == 4) = false := by rw [beq_eq_false_iff_ne]; omega
  have c5 : (r.kind == 5) = true := by rw [beq_iff_eq]; exact hk
  clear hk
  go_enter Tryz.func45, Tryz.ntmps45
  go_upto_region 2 with (refine wpList_store_row rfl 35 (.tmp 4) (.tmp 9) rfl (X + 1 + 1) #[.int .i64 r.kind, .int .i64 r.num, .int .u32 0, .slice none 0 0, .slice none 0 0, .int .u32 0, .int .i64 0, .string ⟨#[]⟩, .int .u32 0, .int .i64 0, .int .i64 0, .int .u16 0, .int .u16 0, .int .u32 0, .int .i64 0, .int .i64 0, .int .i64 0, .int .i64 0] (by rw [HX.out]; rfl) rfl 35 _ HN2.out (by kernel_rfl) rfl (by kernel_rfl) ?_)
  rw [← HX.out]
  generalize World.setRow _ (X + 1 + 1) #[.int .i64 r.kind, .int .i64 r.num, .int .u32 0, .slice none 0 0, .slice none 0 0, .int .u32 0, .int .i64 0, .string ⟨#[]⟩, .int .u32 0, .int .i64 0, .int .i64 0, .int .u16 0, .int .u16 0, .int .u32 0, .int .i64 0, .int .i64 0, .int .i64 0, .int .i64 0] = w0 at *
  clear HN2
  have x0 : w0.cell? ⟨X, 0, none⟩ = some (.int .i64 r.kind) := cell_at HZ0.out
  have hz2 := HZ2.out
  have hz1 := HZ1.out
  obtain ⟨wf, hwf⟩ : ∃ wf, wf = w0.setRow (X + 1) #[.int .i64 r.kind, .int .i64 r.num, .int .u32 0, .slice none 0 0, .slice none 0 0, .int .u32 0, .int .i64 0, .string ⟨#[]⟩, .int .u32 0, .int .i64 0, .int .i64 0, .int .u16 0, .int .u16 0, .int .u32 0, .int .i64 0, .int .i64 0, .int .i64 0, .int .i64 0] := ⟨_, rfl⟩
  have HZ3 := hid (show wf.heap[X + 1]? = some (.cells #[.int .i64 r.kind, .int .i64 r.num, .int .u32 0, .slice none 0 0, .slice none 0 0, .int .u32 0, .int .i64 0, .string ⟨#[]⟩, .int .u32 0, .int .i64 0, .int .i64 0, .int .u16 0, .int .u16 0, .int .u32 0, .int .i64 0, .int .i64 0, .int .i64 0, .int .i64 0] 35 (0, 0)) from hwf ▸ setRow_heap w0 (X + 1) _ _ _ _ HZ1.out)
  have HB := hid (show Below w.heap.size w wf from hwf ▸ below_rowE HB.out (by have := HX.out; omega) _)
  go_upto_region 15 with fail
  go_wp2_with (first
    | (refine wpList_load_row rfl 35 (.tmp 4) rfl (X + 1 + 1) rfl 35 #[.int .i64 r.kind, .int .i64 r.num, .int .u32 0, .slice none 0 0, .slice none 0 0, .int .u32 0, .int .i64 0, .string ⟨#[]⟩, .int .u32 0, .int .i64 0, .int .i64 0, .int .u16 0, .int .u16 0, .int .u32 0, .int .i64 0, .int .i64 0, .int .i64 0, .int .i64 0] (0, 0) _ hz2 Tryz.underlying35 rfl (by kernel_rfl) ?_)
    | (refine wpList_store_row rfl 35 (.tmp 2) (.tmp 75) rfl (X + 1) #[.int .i64 r.kind, .int .i64 r.num, .int .u32 0, .slice none 0 0, .slice none 0 0, .int .u32 0, .int .i64 0, .string ⟨#[]⟩, .int .u32 0, .int .i64 0, .int .i64 0, .int .u16 0, .int .u16 0, .int .u32 0, .int .i64 0, .int .i64 0, .int .i64 0, .int .i64 0] rfl rfl 35 _ hz1 (by kernel_rfl) rfl (by kernel_rfl) ?_; rw [← hwf]))
  try rw [← hwf]
  clear hz2 hz1 hwf HZ2 HZ1 HZ0
  refine bodyPost_ret (v := .tuple #[.agg #[.int .i64 r.kind, .int .i64 r.num, .int .u32 0, .slice none 0 0, .slice none 0 0, .int .u32 0, .int .i64 0, .string ⟨#[]⟩, .int .u32 0, .int .i64 0, .int .i64 0, .int .u16 0, .int .u16 0, .int .u32 0, .int .i64 0, .int .i64 0, .int .i64 0, .int .i64 0], .bool true]) (results_cell_tmp (P := Tryz.prog) (p := 2) (q := 3) (ty := 35) Tryz.results45 _ _ (X + 1) 35 #[.int .i64 r.kind, .int .i64 r.num, .int .u32 0, .slice none 0 0, .slice none 0 0, .int .u32 0, .int .i64 0, .string ⟨#[]⟩, .int .u32 0, .int .i64 0, .int .i64 0, .int .u16 0, .int .u16 0, .int .u32 0, .int .i64 0, .int .i64 0, .int .i64 0, .int .i64 0] (0, 0) _ _ rfl rfl HZ3.out Tryz.underlying35 rfl (by kernel_rfl)) rfl ?_
  have HOW := hid (show ownR r = _ from by unfold ownR; rw [if_neg (by have := HKK.out; omega), if_neg (by have := HKK.out; omega), if_neg (by have := HKK.out; omega), if_neg (by have := HKK.out; omega)])
  have hok := HK.out
  rw [HOW.out] at hok ⊢
  have hkb := HKB.out
  rw [decide_eq_true (by have := HKK.out; omega)] at hkb
  rw [hkb]
  exact ⟨_, rfl, ⟨_, _, rfl, slin_nil _, slout_nil _, hok⟩, HB.out⟩
set_option maxRecDepth 100000 in
set_option maxHeartbeats 8000000 in
theorem plain_k6 (v1 : Value) (r : PRec) (w : World) (h1 : RecAt w v1 r) (hk : ¬ r.kind = 1 ∧ ¬ r.kind = 2 ∧ ¬ r.kind = 3 ∧ ¬ r.kind = 4 ∧ ¬ r.kind = 5) : Calls Tryz.prog 45 #[v1] w (PlainP (ownR r) (decide (1 ≤ r.kind ∧ r.kind ≤ 5)) w) := by
  obtain ⟨va, vb, rfl, hi1, ho1, hk1⟩ := h1
  have HI := hid hi1
  have HO := hid ho1
  have HK := hid (ownR_ok hk1)
  obtain ⟨ia, ic, rfl, -, -⟩ := hi1.shape
  obtain ⟨oa, oc, rfl, -, -⟩ := ho1.shape
  obtain ⟨n1, hn1⟩ : ∃ n, n = r.tx.ins.length := ⟨_, rfl⟩
  obtain ⟨n2, hn2⟩ : ∃ n, n = r.tx.outs.length := ⟨_, rfl⟩
  rw [← hn1, ← hn2]
  rw [← hn1] at HI
  rw [← hn2] at HO
  clear hn1 hn2 hi1 ho1 hk1
  obtain ⟨kb, hkb⟩ : ∃ kb, kb = decide (1 ≤ r.kind ∧ r.kind ≤ 5) := ⟨_, rfl⟩
  rw [← hkb]
  have HKB := hid hkb
  clear hkb
  obtain ⟨X, hX⟩ : ∃ q, q = w.heap.size := ⟨_, rfl⟩
  obtain ⟨hz2, hy0, hy1, hy2, hal⟩ := box3 w X hX #[.int .i64 r.kind, .int .i64 r.num, .int .u32 r.tx.ver, .slice ia n1 ic, .slice oa n2 oc, .int .u32 r.tx.lock, .int .i64 r.index, .string r.id, .int .u32 r.idx, .int .i64 r.val, .int .i64 r.br, .int .u16 r.tag, .int .u16 r.delay, .int .u32 r.height, .int .i64 r.dead, .int .i64 r.budget, .int .i64 r.start, .int .i64 r.fee] #[.int .i64 0, .int .i64 0, .int .u32 0, .slice none 0 0, .slice none 0 0, .int .u32 0, .int .i64 0, .string ⟨#[]⟩, .int .u32 0, .int .i64 0, .int .i64 0, .int .u16 0, .int .u16 0, .int .u32 0, .int .i64 0, .int .i64 0, .int .i64 0, .int .i64 0] #[.int .i64 0, .int .i64 0, .int .u32 0, .slice none 0 0, .slice none 0 0, .int .u32 0, .int .i64 0, .string ⟨#[]⟩, .int .u32 0, .int .i64 0, .int .i64 0, .int .u16 0, .int .u16 0, .int .u32 0, .int .i64 0, .int .i64 0, .int .i64 0, .int .i64 0] #[.int .i64 r.kind, .int .i64 r.num, .int .u32 0, .slice none 0 0, .slice none 0 0, .int .u32 0, .int .i64 0, .string ⟨#[]⟩, .int .u32 0, .int .i64 0, .int .i64 0, .int .u16 0, .int .u16 0, .int .u32 0, .int .i64 0, .int .i64 0, .int .i64 0, .int .i64 0] 35
  have HN2 := hid hz2
  have HZ0 := hid hy0
  have HZ1 := hid hy1
  have HZ2 := hid hy2
  have HB := hid hal
  have HX := hid hX
  clear hz2 hy0 hy1 hy2 hal hX
  have HKK := hid hk
  have c1 : (r.kind == 1) = false := by rw [beq_eq_false_iff_ne]; omega
  have c2 : (r.kind == 2) = false := by rw [beq_eq_false_iff_ne]; omega
  have c3 : (r.kind == 3) = false := by rw [beq_eq_false_iff_ne]; omega
  have c4 : (r.kind == 4) = false := by rw [beq_eq_false_iff_ne]; omega
  have c5 : (r.kind == 5) = false := by rw [beq_eq_false_iff_ne]; omega
  clear hk
  go_enter Tryz.func45, Tryz.ntmps45
  go_upto_region 2 with (refine wpList_store_row rfl 35 (.tmp 4) (.tmp 9) rfl (X + 1 + 1) #[.int .i64 r.kind, .int .i64 r.num, .int .u32 0, .slice none 0 0, .slice none 0 0, .int .u32 0, .int .i64 0, .string ⟨#[]⟩, .int .u32 0, .int .i64 0, .int .i64 0, .int .u16 0, .int .u16 0, .int .u32 0, .int .i64 0, .int .i64 0, .int .i64 0, .int .i64 0] (by rw [HX.out]; rfl) rfl 35 _ HN2.out (by kernel_rfl) rfl (by kernel_rfl) ?_)
  rw [← HX.out]
  generalize World.setRow _ (X + 1 + 1) #[.int .i64 r.kind, .int .i64 r.num, .int .u32 0, .slice none 0 0, .slice none 0 0, .int .u32 0, .int .i64 0, .string ⟨#[]⟩, .int .u32 0, .int .i64 0, .int .i64 0, .int .u16 0, .int .u16 0, .int .u32 0, .int .i64 0, .int .i64 0, .int .i64 0, .int .i64 0] = w0 at *
  clear HN2
  have x0 : w0.cell? ⟨X, 0, none⟩ = some (.int .i64 r.kind) := cell_at HZ0.out
  have hz2 := HZ2.out
  have hz1 := HZ1.out
  obtain ⟨wf, hwf⟩ : ∃ wf, wf = w0.setRow (X + 1) #[.int .i64 r.kind, .int .i64 r.num, .int .u32 0, .slice none 0 0, .slice none 0 0, .int .u32 0, .int .i64 0, .string ⟨#[]⟩, .int .u32 0, .int .i64 0, .int .i64 0, .int .u16 0, .int .u16 0, .int .u32 0, .int .i64 0, .int .i64 0, .int .i64 0, .int .i64 0] := ⟨_, rfl⟩
  have HZ3 := hid (show wf.heap[X + 1]? = some (.cells #[.int .i64 r.kind, .int .i64 r.num, .int .u32 0, .slice none 0 0, .slice none 0 0, .int .u32 0, .int .i64 0, .string ⟨#[]⟩, .int .u32 0, .int .i64 0, .int .i64 0, .int .u16 0, .int .u16 0, .int .u32 0, .int .i64 0, .int .i64 0, .int .i64 0, .int .i64 0] 35 (0, 0)) from hwf ▸ setRow_heap w0 (X + 1) _ _ _ _ HZ1.out)
  have HB := hid (show Below w.heap.size w wf from hwf ▸ below_rowE HB.out (by have := HX.out; omega) _)
  go_upto_region 3 with fail
  go_wp2_with (first
    | (refine wpList_load_row rfl 35 (.tmp 4) rfl (X + 1 + 1) rfl 35 #[.int .i64 r.kind, .int .i64 r.num, .int .u32 0, .slice none 0 0, .slice none 0 0, .int .u32 0, .int .i64 0, .string ⟨#[]⟩, .int .u32 0, .int .i64 0, .int .i64 0, .int .u16 0, .int .u16 0, .int .u32 0, .int .i64 0, .int .i64 0, .int .i64 0, .int .i64 0] (0, 0) _ hz2 Tryz.underlying35 rfl (by kernel_rfl) ?_)
    | (refine wpList_store_row rfl 35 (.tmp 2) (.tmp 12) rfl (X + 1) #[.int .i64 r.kind, .int .i64 r.num, .int .u32 0, .slice none 0 0, .slice none 0 0, .int .u32 0, .int .i64 0, .string ⟨#[]⟩, .int .u32 0, .int .i64 0, .int .i64 0, .int .u16 0, .int .u16 0, .int .u32 0, .int .i64 0, .int .i64 0, .int .i64 0, .int .i64 0] rfl rfl 35 _ hz1 (by kernel_rfl) rfl (by kernel_rfl) ?_; rw [← hwf]))
  try rw [← hwf]
  clear hz2 hz1 hwf HZ2 HZ1 HZ0
  refine bodyPost_ret (v := .tuple #[.agg #[.int .i64 r.kind, .int .i64 r.num, .int .u32 0, .slice none 0 0, .slice none 0 0, .int .u32 0, .int .i64 0, .string ⟨#[]⟩, .int .u32 0, .int .i64 0, .int .i64 0, .int .u16 0, .int .u16 0, .int .u32 0, .int .i64 0, .int .i64 0, .int .i64 0, .int .i64 0], .bool false]) (results_cell_tmp (P := Tryz.prog) (p := 2) (q := 3) (ty := 35) Tryz.results45 _ _ (X + 1) 35 #[.int .i64 r.kind, .int .i64 r.num, .int .u32 0, .slice none 0 0, .slice none 0 0, .int .u32 0, .int .i64 0, .string ⟨#[]⟩, .int .u32 0, .int .i64 0, .int .i64 0, .int .u16 0, .int .u16 0, .int .u32 0, .int .i64 0, .int .i64 0, .int .i64 0, .int .i64 0] (0, 0) _ _ rfl rfl HZ3.out Tryz.underlying35 rfl (by kernel_rfl)) rfl ?_
  have HOW := hid (show ownR r = _ from by unfold ownR; rw [if_neg HKK.out.1, if_neg HKK.out.2.1, if_neg HKK.out.2.2.1, if_neg HKK.out.2.2.2.1])
  have hok := HK.out
  rw [HOW.out] at hok ⊢
  have hkb := HKB.out
  rw [decide_eq_false (by have := HKK.out; omega)] at hkb
  rw [hkb]
  exact ⟨_, rfl, ⟨_, _, rfl, slin_nil _, slout_nil _, hok⟩, HB.out⟩
end Go.Proofs.YtaooibocknemkaaGreat
end

section
namespace Go.Proofs.YtaooibocknemkaaGreat
open Go.RowKit Go.BigFrame
open Go.Lib (hid)
set_option linter.unusedVariables false
set_option linter.unusedSimpArgs false
set_option maxRecDepth 100000 in
set_option maxHeartbeats 8000000 in
theorem plain_k4 (v1 : Value) (r : PRec) (w : World) (h1 : RecAt w v1 r) (hk : r.kind = 4) : Calls Tryz.prog 45 #[v1] w (PlainP (ownR r) (decide (1 ≤ r.kind ∧ r.kind ≤ 5)) w) := by
  obtain ⟨va, vb, rfl, hi1, ho1, hk1⟩ := h1
  have HI := hid hi1
  have HO := hid ho1
  have HK := hid (ownR_ok hk1)
  obtain ⟨ia, ic, rfl, -, -⟩ := hi1.shape
  obtain ⟨oa, oc, rfl, -, -⟩ := ho1.shape
  obtain ⟨n1, hn1⟩ : ∃ n, n = r.tx.ins.length := ⟨_, rfl⟩
  obtain ⟨n2, hn2⟩ : ∃ n, n = r.tx.outs.length := ⟨_, rfl⟩
  rw [← hn1, ← hn2]
  rw [← hn1] at HI
  rw [← hn2] at HO
  clear hn1 hn2 hi1 ho1 hk1
  obtain ⟨kb, hkb⟩ : ∃ kb, kb = decide (1 ≤ r.kind ∧ r.kind ≤ 5) := ⟨_, rfl⟩
  rw [← hkb]
  have HKB := hid hkb
  clear hkb
  obtain ⟨X, hX⟩ : ∃ q, q = w.heap.size := ⟨_, rfl⟩
  obtain ⟨hz2, hy0, hy1, hy2, hal⟩ := box3 w X hX #[.int .i64 r.kind, .int .i64 r.num, .int .u32 r.tx.ver, .slice ia n1 ic, .slice oa n2 oc, .int .u32 r.tx.lock, .int .i64 r.index, .string r.id, .int .u32 r.idx, .int .i64 r.val, .int .i64 r.br, .int .u16 r.tag, .int .u16 r.delay, .int .u32 r.height, .int .i64 r.dead, .int .i64 r.budget, .int .i64 r.start, .int .i64 r.fee] #[.int .i64 0, .int .i64 0, .int .u32 0, .slice none 0 0, .slice none 0 0, .int .u32 0, .int .i64 0, .string ⟨#[]⟩, .int .u32 0, .int .i64 0, .int .i64 0, .int .u16 0, .int .u16 0, .int .u32 0, .int .i64 0, .int .i64 0, .int .i64 0, .int .i64 0] #[.int .i64 0, .int .i64 0, .int .u32 0, .slice none 0 0, .slice none 0 0, .int .u32 0, .int .i64 0, .string ⟨#[]⟩, .int .u32 0, .int .i64 0, .int .i64 0, .int .u16 0, .int .u16 0, .int .u32 0, .int .i64 0, .int .i64 0, .int .i64 0, .int .i64 0] #[.int .i64 r.kind, .int .i64 r.num, .int .u32 0, .slice none 0 0, .slice none 0 0, .int .u32 0, .int .i64 0, .string ⟨#[]⟩, .int .u32 0, .int .i64 0, .int .i64 0, .int .u16 0, .int .u16 0, .int .u32 0, .int .i64 0, .int .i64 0, .int .i64 0, .int .i64 0] 35
  have HN2 := hid hz2
  have HZ0 := hid hy0
  have HZ1 := hid hy1
  have HZ2 := hid hy2
  have HB := hid hal
  have HX := hid hX
  clear hz2 hy0 hy1 hy2 hal hX
  have HKK := hid hk
  have c1 : (r.kind == 1) = false := by rw [beq_eq_false_iff_ne]; omega
  have c2 : (r.kind == 2) = false := by rw [beq_eq_false_iff_ne]; omega
  have c3 : (r.kind == 3) = false := by rw [beq_eq_false_iff_ne]; omega
  have c4 : (r.kind == 4) = true := by rw [beq_iff_eq]; exact hk
  clear hk
  go_enter Tryz.func45, Tryz.ntmps45
  go_upto_region 2 with (refine wpList_store_row rfl 35 (.tmp 4) (.tmp 9) rfl (X + 1 + 1) #[.int .i64 r.kind, .int .i64 r.num, .int .u32 0, .slice none 0 0, .slice none 0 0, .int .u32 0, .int .i64 0, .string ⟨#[]⟩, .int .u32 0, .int .i64 0, .int .i64 0, .int .u16 0, .int .u16 0, .int .u32 0, .int .i64 0, .int .i64 0, .int .i64 0, .int .i64 0] (by rw [HX.out]; rfl) rfl 35 _ HN2.out (by kernel_rfl) rfl (by kernel_rfl) ?_)
  rw [← HX.out]
  generalize World.setRow _ (X + 1 + 1) #[.int .i64 r.kind, .int .i64 r.num, .int .u32 0, .slice none 0 0, .slice none 0 0, .int .u32 0, .int .i64 0, .string ⟨#[]⟩, .int .u32 0, .int .i64 0, .int .i64 0, .int .u16 0, .int .u16 0, .int .u32 0, .int .i64 0, .int .i64 0, .int .i64 0, .int .i64 0] = w0 at *
  clear HN2
  have x0 : w0.cell? ⟨X, 0, none⟩ = some (.int .i64 r.kind) := cell_at HZ0.out
  have x6 : w0.cell? ⟨X, 6, none⟩ = some (.int .i64 r.index) := cell_at HZ0.out
  have x7 : w0.cell? ⟨X, 7, none⟩ = some (.string r.id) := cell_at HZ0.out
  have x8 : w0.cell? ⟨X, 8, none⟩ = some (.int .u32 r.idx) := cell_at HZ0.out
  have x17 : w0.cell? ⟨X, 17, none⟩ = some (.int .i64 r.fee) := cell_at HZ0.out
  have y7 : w0.cell? ⟨X + 1 + 1, 7, none⟩ = some (.string ⟨#[]⟩) := cell_at HZ2.out
  have y8 : w0.cell? ⟨X + 1 + 1, 8, none⟩ = some (.int .u32 0) := cell_at HZ2.out
  have y6 : w0.cell? ⟨X + 1 + 1, 6, none⟩ = some (.int .i64 0) := cell_at HZ2.out
  have y17 : w0.cell? ⟨X + 1 + 1, 17, none⟩ = some (.int .i64 0) := cell_at HZ2.out
  have f7 : w0.frozen? ⟨X + 1 + 1, 7, none⟩ = false := free_at HZ2.out
  have f8 : w0.frozen? ⟨X + 1 + 1, 8, none⟩ = false := free_at HZ2.out
  have f6 : w0.frozen? ⟨X + 1 + 1, 6, none⟩ = false := free_at HZ2.out
  have f17 : w0.frozen? ⟨X + 1 + 1, 17, none⟩ = false := free_at HZ2.out
  go_upto_region 13 with fail
  go_region
  change Exit.inBlock _ _ _ _ (World.drew (stores w0 (X + 1 + 1) [(7, .string r.id), (8, .int .u32 r.idx), (6, .int .i64 r.index), (17, .int .i64 r.fee)]))
  obtain ⟨s1, s2, s3⟩ := stores_spec [(7, .string r.id), (8, .int .u32 r.idx), (6, .int .i64 r.index), (17, .int .i64 r.fee)] HZ2.out
  have HZ0 := hid ((s2 X (by omega)).trans HZ0.out)
  have HZ1 := hid ((s2 (X + 1) (by omega)).trans HZ1.out)
  have HZ2 := hid (show (stores w0 (X + 1 + 1) [(7, .string r.id), (8, .int .u32 r.idx), (6, .int .i64 r.index), (17, .int .i64 r.fee)]).heap[X + 1 + 1]? = some (.cells #[.int .i64 r.kind, .int .i64 r.num, .int .u32 0, .slice none 0 0, .slice none 0 0, .int .u32 0, .int .i64 r.index, .string r.id, .int .u32 r.idx, .int .i64 0, .int .i64 0, .int .u16 0, .int .u16 0, .int .u32 0, .int .i64 0, .int .i64 0, .int .i64 0, .int .i64 r.fee] 35 (0, 0)) from s1)
  have HB := hid (HB.out.trans (s3 w.heap.size (by have := HX.out; omega)))
  clear s1 s2 s3 x7 y7 f7 x8 y8 f8 x6 y6 f6 x17 y17 f17
  have HZ0 := hid (drew_heap HZ0.out)
  have HZ1 := hid (drew_heap HZ1.out)
  have HZ2 := hid (drew_heap HZ2.out)
  have HB := hid HB.out.drew
  generalize World.drew (stores w0 (X + 1 + 1) [(7, .string r.id), (8, .int .u32 r.idx), (6, .int .i64 r.index), (17, .int .i64 r.fee)]) = w1 at *
  clear x0
  have hz2 := HZ2.out
  have hz1 := HZ1.out
  obtain ⟨wf, hwf⟩ : ∃ wf, wf = w1.setRow (X + 1) #[.int .i64 r.kind, .int .i64 r.num, .int .u32 0, .slice none 0 0, .slice none 0 0, .int .u32 0, .int .i64 r.index, .string r.id, .int .u32 r.idx, .int .i64 0, .int .i64 0, .int .u16 0, .int .u16 0, .int .u32 0, .int .i64 0, .int .i64 0, .int .i64 0, .int .i64 r.fee] := ⟨_, rfl⟩
  have HZ3 := hid (show wf.heap[X + 1]? = some (.cells #[.int .i64 r.kind, .int .i64 r.num, .int .u32 0, .slice none 0 0, .slice none 0 0, .int .u32 0, .int .i64 r.index, .string r.id, .int .u32 r.idx, .int .i64 0, .int .i64 0, .int .u16 0, .int .u16 0, .int .u32 0, .int .i64 0, .int .i64 0, .int .i64 0, .int .i64 r.fee] 35 (0, 0)) from hwf ▸ setRow_heap w1 (X + 1) _ _ _ _ HZ1.out)
  have HB := hid (show Below w.heap.size w wf from hwf ▸ below_rowE HB.out (by have := HX.out; omega) _)
  go_upto_region 15 with fail
  go_wp2_with (first
    | (refine wpList_load_row rfl 35 (.tmp 4) rfl (X + 1 + 1) rfl 35 #[.int .i64 r.kind, .int .i64 r.num, .int .u32 0, .slice none 0 0, .slice none 0 0, .int .u32 0, .int .i64 r.index, .string r.id, .int .u32 r.idx, .int .i64 0, .int .i64 0, .int .u16 0, .int .u16 0, .int .u32 0, .int .i64 0, .int .i64 0, .int .i64 0, .int .i64 r.fee] (0, 0) _ hz2 Tryz.underlying35 rfl (by kernel_rfl) ?_)
    | (refine wpList_store_row rfl 35 (.tmp 2) (.tmp 75) rfl (X + 1) #[.int .i64 r.kind, .int .i64 r.num, .int .u32 0, .slice none 0 0, .slice none 0 0, .int .u32 0, .int .i64 r.index, .string r.id, .int .u32 r.idx, .int .i64 0, .int .i64 0, .int .u16 0, .int .u16 0, .int .u32 0, .int .i64 0, .int .i64 0, .int .i64 0, .int .i64 r.fee] rfl rfl 35 _ hz1 (by kernel_rfl) rfl (by kernel_rfl) ?_; rw [← hwf]))
  try rw [← hwf]
  clear hz2 hz1 hwf HZ2 HZ1 HZ0
  refine bodyPost_ret (v := .tuple #[.agg #[.int .i64 r.kind, .int .i64 r.num, .int .u32 0, .slice none 0 0, .slice none 0 0, .int .u32 0, .int .i64 r.index, .string r.id, .int .u32 r.idx, .int .i64 0, .int .i64 0, .int .u16 0, .int .u16 0, .int .u32 0, .int .i64 0, .int .i64 0, .int .i64 0, .int .i64 r.fee], .bool true]) (results_cell_tmp (P := Tryz.prog) (p := 2) (q := 3) (ty := 35) Tryz.results45 _ _ (X + 1) 35 #[.int .i64 r.kind, .int .i64 r.num, .int .u32 0, .slice none 0 0, .slice none 0 0, .int .u32 0, .int .i64 r.index, .string r.id, .int .u32 r.idx, .int .i64 0, .int .i64 0, .int .u16 0, .int .u16 0, .int .u32 0, .int .i64 0, .int .i64 0, .int .i64 0, .int .i64 r.fee] (0, 0) _ _ rfl rfl HZ3.out Tryz.underlying35 rfl (by kernel_rfl)) rfl ?_
  have HOW := hid (show ownR r = _ from by unfold ownR; rw [if_neg (by have := HKK.out; omega), if_neg (by have := HKK.out; omega), if_neg (by have := HKK.out; omega), if_pos HKK.out])
  have hok := HK.out
  rw [HOW.out] at hok ⊢
  have hkb := HKB.out
  rw [decide_eq_true (by have := HKK.out; omega)] at hkb
  rw [hkb]
  exact ⟨_, rfl, ⟨_, _, rfl, slin_nil _, slout_nil _, hok⟩, HB.out⟩
end Go.Proofs.YtaooibocknemkaaGreat
end

section
namespace Go.Proofs.YtaooibocknemkaaGreat
open Go.RowKit Go.BigFrame
set_option linter.unusedVariables false
set_option linter.unusedSimpArgs false
theorem plain_any (v1 : Value) (r : PRec) (w : World) (h1 : RecAt w v1 r) : Calls Tryz.prog 45 #[v1] w (PlainP (ownR r) (decide (1 ≤ r.kind ∧ r.kind ≤ 5)) w) := by
  by_cases k1 : r.kind = 1
  · exact plain_k1 v1 r w h1 k1
  by_cases k2 : r.kind = 2
  · exact plain_k2 v1 r w h1 k2
  by_cases k3 : r.kind = 3
  · exact plain_k3 v1 r w h1 k3
  by_cases k4 : r.kind = 4
  · exact plain_k4 v1 r w h1 k4
  by_cases k5 : r.kind = 5
  · exact plain_k5 v1 r w h1 k5
  exact plain_k6 v1 r w h1 ⟨k1, k2, k3, k4, k5⟩
end Go.Proofs.YtaooibocknemkaaGreat
end

section
namespace Go.Proofs.YtaooibocknemkaaGreat
open Go.RowKit Go.BigFrame
open Go.Lib (hid)
set_option linter.unusedVariables false
set_option linter.unusedSimpArgs false
def hgt (n : Int) : Bool := decide (0 ≤ n) && decide (n ≤ 1000000)
theorem hgt_iff (n : Int) : hgt n = true ↔ 0 ≤ n ∧ n ≤ 1000000 := by unfold hgt; simp
def BE (b : Bool) (w : World) (e : Ending) (w' : World) : Prop := e = .returned (.bool b) ∧ w = w'
set_option maxHeartbeats 400000 in
theorem height_any (n : Int) (w : World) : Calls Tryz.prog 100 #[.int .i64 n] w (BE (hgt n) w) := by
  unfold hgt
  go_enter Tryz.func100, Tryz.ntmps100
  by_cases h0 : 0 ≤ n
  · go_wp2
    go_ret
    exact ⟨by simp [h0], rfl⟩
  · go_wp2
    go_ret
    exact ⟨by rw [decide_eq_false (show ¬ 0 ≤ n from Int.not_le.2 h0)]; rfl, rfl⟩
def askedB (r : PRec) : Bool := ((((((decide (0 ≤ r.br) && decide (r.br < 3)) && hgt r.height) && hgt r.dead) && hgt r.start) && goodA r.budget) && goodA r.val)
set_option maxRecDepth 100000 in
set_option maxHeartbeats 8000000 in
theorem asked_any (v1 : Value) (r : PRec) (w : World) (h1 : RecAt w v1 r) : Calls Tryz.prog 76 #[v1] w (BIs (askedB r) w) := by
  obtain ⟨va, vb, rfl, hi1, ho1, hk1⟩ := h1
  have HI := hid hi1
  have HO := hid ho1
  have HK := hid hk1
  obtain ⟨ia, ic, rfl, -, -⟩ := hi1.shape
  obtain ⟨oa, oc, rfl, -, -⟩ := ho1.shape
  obtain ⟨n1, hn1⟩ : ∃ n, n = r.tx.ins.length := ⟨_, rfl⟩
  obtain ⟨n2, hn2⟩ : ∃ n, n = r.tx.outs.length := ⟨_, rfl⟩
  have HN1 := hid hn1
  have HN2 := hid hn2
  rw [← hn1, ← hn2]
  rw [← hn1] at HI
  rw [← hn2] at HO
  clear hn1 hn2 hi1 ho1
  have hwr : IntKind.i64.wrap (r.height : Int) = r.height := by have := hk1.height; rw [IntKind.wrap_i64]; omega
  clear hk1 HI HO HK HN1 HN2
  obtain ⟨b1, hb1⟩ : ∃ b, b = decide (0 ≤ r.br) := ⟨_, rfl⟩
  obtain ⟨b2, hb2⟩ : ∃ b, b = decide (r.br < 3) := ⟨_, rfl⟩
  obtain ⟨b3, hb3⟩ : ∃ b, b = hgt r.height := ⟨_, rfl⟩
  obtain ⟨b4, hb4⟩ : ∃ b, b = hgt r.dead := ⟨_, rfl⟩
  obtain ⟨b5, hb5⟩ : ∃ b, b = hgt r.start := ⟨_, rfl⟩
  obtain ⟨b6, hb6⟩ : ∃ b, b = goodA r.budget := ⟨_, rfl⟩
  obtain ⟨b7, hb7⟩ : ∃ b, b = goodA r.val := ⟨_, rfl⟩
  have H3 := hid (fun y : World => hb3 ▸ height_any (r.height : Int) y)
  have H4 := hid (fun y : World => hb4 ▸ height_any r.dead y)
  have H5 := hid (fun y : World => hb5 ▸ height_any r.start y)
  have H6 := hid (fun y : World => hb6 ▸ good_any r.budget y)
  have H7 := hid (fun y : World => hb7 ▸ good_any r.val y)
  unfold askedB
  rw [← hb1, ← hb2, ← hb3, ← hb4, ← hb5, ← hb6, ← hb7]
  have HB1 := hid hb1
  have HB2 := hid hb2
  clear hb1 hb2 hb3 hb4 hb5 hb6 hb7
  go_enter Tryz.func76, Tryz.ntmps76
  go_upto_region 2 with fail
  obtain ⟨X, hX⟩ : ∃ q, q = w.heap.size := ⟨_, rfl⟩
  have hnews := new2 w X hX (.cells #[.int .i64 r.kind, .int .i64 r.num, .int .u32 r.tx.ver, .slice ia n1 ic, .slice oa n2 oc, .int .u32 r.tx.lock, .int .i64 r.index, .string r.id, .int .u32 r.idx, .int .i64 r.val, .int .i64 r.br, .int .u16 r.tag, .int .u16 r.delay, .int .u32 r.height, .int .i64 r.dead, .int .i64 r.budget, .int .i64 r.start, .int .i64 r.fee] 35) (.cells #[.string r.id, .int .u32 r.idx, .int .i64 r.val, .int .i64 r.br, .int .u16 r.tag, .int .u16 r.delay, .int .u32 r.height, .int .i64 r.dead] 33)
  rw [← hX]
  generalize ((w.alloc (.cells #[.int .i64 r.kind, .int .i64 r.num, .int .u32 r.tx.ver, .slice ia n1 ic, .slice oa n2 oc, .int .u32 r.tx.lock, .int .i64 r.index, .string r.id, .int .u32 r.idx, .int .i64 r.val, .int .i64 r.br, .int .u16 r.tag, .int .u16 r.delay, .int .u32 r.height, .int .i64 r.dead, .int .i64 r.budget, .int .i64 r.start, .int .i64 r.fee] 35)).alloc (.cells #[.string r.id, .int .u32 r.idx, .int .i64 r.val, .int .i64 r.br, .int .u16 r.tag, .int .u16 r.delay, .int .u32 r.height, .int .i64 r.dead] 33)) = w0 at *
  obtain ⟨hz0, hz1, hal⟩ := hnews
  have HB := hid hal
  have x15 : w0.cell? ⟨X, 15, none⟩ = some (.int .i64 r.budget) := cell_at hz0
  have x16 : w0.cell? ⟨X, 16, none⟩ = some (.int .i64 r.start) := cell_at hz0
  have y0 : w0.cell? ⟨X + 1, 0, none⟩ = some (.string r.id) := cell_at hz1
  have y1 : w0.cell? ⟨X + 1, 1, none⟩ = some (.int .u32 r.idx) := cell_at hz1
  have y2 : w0.cell? ⟨X + 1, 2, none⟩ = some (.int .i64 r.val) := cell_at hz1
  have y3 : w0.cell? ⟨X + 1, 3, none⟩ = some (.int .i64 r.br) := cell_at hz1
  have y4 : w0.cell? ⟨X + 1, 4, none⟩ = some (.int .u16 r.tag) := cell_at hz1
  have y5 : w0.cell? ⟨X + 1, 5, none⟩ = some (.int .u16 r.delay) := cell_at hz1
  have y6 : w0.cell? ⟨X + 1, 6, none⟩ = some (.int .u32 r.height) := cell_at hz1
  have y7 : w0.cell? ⟨X + 1, 7, none⟩ = some (.int .i64 r.dead) := cell_at hz1
  clear hz0 hz1 hal hX
  cases b1
  · have h1 : ¬ 0 ≤ r.br := of_decide_eq_false HB1.out.symm
    go_wp2_with fail
    go_ret
    exact ⟨rfl, HB.out⟩
  have h1 : 0 ≤ r.br := of_decide_eq_true HB1.out.symm
  cases b2
  · have h2 : ¬ r.br < 3 := of_decide_eq_false HB2.out.symm
    go_wp2_with fail
    go_ret
    exact ⟨rfl, HB.out⟩
  have h2 : r.br < 3 := of_decide_eq_true HB2.out.symm
  go_wp2_with fail
  refine (H3.out w0).mono ?_
  rintro e w1 ⟨rfl, rfl⟩
  cases b3
  · go_wp2_with fail
    go_ret
    exact ⟨rfl, HB.out⟩
  go_wp2_with fail
  refine (H4.out w0).mono ?_
  rintro e w1 ⟨rfl, rfl⟩
  cases b4
  · go_wp2_with fail
    go_ret
    exact ⟨rfl, HB.out⟩
  go_wp2_with fail
  refine (H5.out w0).mono ?_
  rintro e w1 ⟨rfl, rfl⟩
  cases b5
  · go_wp2_with fail
    go_ret
    exact ⟨rfl, HB.out⟩
  go_wp2_with fail
  refine (H6.out w0).mono ?_
  rintro e w1 ⟨rfl, rfl⟩
  cases b6
  · go_wp2_with fail
    go_ret
    exact ⟨rfl, HB.out⟩
  go_wp2_with fail
  refine (H7.out w0).mono ?_
  rintro e w1 ⟨rfl, rfl⟩
  cases b7
  · go_wp2_with fail
    go_ret
    exact ⟨rfl, HB.out⟩
  go_wp2_with fail
  go_ret
  exact ⟨rfl, HB.out⟩
end Go.Proofs.YtaooibocknemkaaGreat
end
