/-
  TxFewer: the walk. Conditions: none.
-/
import Derived.Test.YtjbpaknjiplakaaTxPa
namespace Go.Proofs.Ytjbpaknjiplakaa
open Go.RowKit Go.BigFrame
set_option linter.unusedVariables false
set_option linter.unusedSimpArgs false

/-- A box of which the second and the third cell are written by two operations. -/
structure WS (w0 : World) (A : Nat) (ver lock vi vi' vo vo' : Value) (s1 s2 : Nat) (L : Nat → Prop) (w : World) : Prop where
  box : ∃ p q, w.heap[A]? = some (.cells #[ver, p, q, lock] 26 (0, 0)) ∧ (L s1 → p = vi') ∧ (¬ L s1 → p = vi) ∧ (L s2 → q = vo') ∧ (¬ L s2 → q = vo)
  bel : Below A w0 w
  other : ∀ b, b ≠ A → w.heap[b]? = w0.heap[b]?
section
variable {w0 w : World} {A : Nat} {ver lock vi vi' vo vo' : Value} {s1 s2 : Nat} {L : Nat → Prop}
theorem WS.add (h : WS w0 A ver lock vi vi' vo vo' s1 s2 L w) (i : Nat) (h1 : i ≠ s1) (h2 : i ≠ s2) : WS w0 A ver lock vi vi' vo vo' s1 s2 (fun j => j = i ∨ L j) w := by
  obtain ⟨⟨p, q, e, a, b, c, d⟩, h3, h4⟩ := h
  have f1 : (s1 = i ∨ L s1) ↔ L s1 := ⟨fun h => h.resolve_left (fun e => h1 e.symm), .inr⟩
  have f2 : (s2 = i ∨ L s2) ↔ L s2 := ⟨fun h => h.resolve_left (fun e => h2 e.symm), .inr⟩
  exact ⟨⟨p, q, e, fun x => a (f1.1 x), fun x => b (fun y => x (f1.2 y)), fun x => c (f2.1 x), fun x => d (fun y => x (f2.2 y))⟩, h3, h4⟩
theorem WS.st1 (h : WS w0 A ver lock vi vi' vo vo' s1 s2 L w) (hne : s2 ≠ s1) : WS w0 A ver lock vi vi' vo vo' s1 s2 (fun j => j = s1 ∨ L j) (w.setCell ⟨A, 1, none⟩ vi') := by
  obtain ⟨⟨p, q, e, a, b, c, d⟩, h3, h4⟩ := h
  have f2 : (s2 = s1 ∨ L s2) ↔ L s2 := ⟨fun h => h.resolve_left hne, .inr⟩
  exact ⟨⟨vi', q, heap_setCell_at e, fun _ => rfl, fun x => absurd (.inl rfl) x, fun x => c (f2.1 x), fun x => d (fun y => x (f2.2 y))⟩, h3.setCell (p := ⟨A, 1, none⟩) (Nat.le_refl _) _, fun k hk => (heap_setCell_other _ _ _ _ hk).trans (h4 k hk)⟩
theorem WS.st2 (h : WS w0 A ver lock vi vi' vo vo' s1 s2 L w) (hne : s1 ≠ s2) : WS w0 A ver lock vi vi' vo vo' s1 s2 (fun j => j = s2 ∨ L j) (w.setCell ⟨A, 2, none⟩ vo') := by
  obtain ⟨⟨p, q, e, a, b, c, d⟩, h3, h4⟩ := h
  have f1 : (s1 = s2 ∨ L s1) ↔ L s1 := ⟨fun h => h.resolve_left hne, .inr⟩
  exact ⟨⟨p, vo', heap_setCell_at e, fun x => a (f1.1 x), fun x => b (fun y => x (f1.2 y)), fun _ => rfl, fun x => absurd (.inl rfl) x⟩, h3.setCell (p := ⟨A, 2, none⟩) (Nat.le_refl _) _, fun k hk => (heap_setCell_other _ _ _ _ hk).trans (h4 k hk)⟩
theorem WS.c1 (h : WS w0 A ver lock vi vi' vo vo' s1 s2 L w) (hn : ¬ L s1) : w.cell? ⟨A, 1, none⟩ = some vi ∧ w.frozen? ⟨A, 1, none⟩ = false := by
  obtain ⟨⟨p, q, e, a, b, c, d⟩, h3, h4⟩ := h
  obtain rfl := b hn
  exact ⟨cell_at e, free_at e⟩
theorem WS.c2 (h : WS w0 A ver lock vi vi' vo vo' s1 s2 L w) (hn : ¬ L s2) : w.cell? ⟨A, 2, none⟩ = some vo ∧ w.frozen? ⟨A, 2, none⟩ = false := by
  obtain ⟨⟨p, q, e, a, b, c, d⟩, h3, h4⟩ := h
  obtain rfl := d hn
  exact ⟨cell_at e, free_at e⟩
theorem WS.all (h : WS w0 A ver lock vi vi' vo vo' s1 s2 L w) (h1 : L s1) (h2 : L s2) : w.heap[A]? = some (.cells #[ver, vi', vo', lock] 26 (0, 0)) := by
  obtain ⟨⟨p, q, e, a, b, c, d⟩, h3, h4⟩ := h
  obtain rfl := a h1
  obtain rfl := c h2
  exact e
end
/-- The values while both lists are cut. -/
def RV (X : Nat) (n m : Int) (vi vi' vo vo' : Value) (n1 m1 i j : Nat) : Nat → List Value → Value → Prop
  | 0 => fun _ v => v = .pointer (some ⟨X, 1, none⟩)
  | 1 => fun _ v => v = vi
  | 2 => fun _ v => v = .int .u8 n
  | 3 => fun _ v => v = .int .i64 n
  | 4 => fun _ v => v = .pointer (some ⟨X, 1, none⟩)
  | 5 => fun _ v => v = vi
  | 6 => fun _ v => v = .int .i64 n1
  | 7 => fun _ v => v = .int .i64 i
  | 8 => fun _ v => v = .int .i64 (i + 1 : Nat)
  | 9 => fun _ v => v = vi'
  | 10 => fun _ v => v = .pointer (some ⟨X, 2, none⟩)
  | 11 => fun _ v => v = vo
  | 12 => fun _ v => v = .int .u8 m
  | 13 => fun _ v => v = .int .i64 m
  | 14 => fun _ v => v = .pointer (some ⟨X, 2, none⟩)
  | 15 => fun _ v => v = vo
  | 16 => fun _ v => v = .int .i64 m1
  | 17 => fun _ v => v = .int .i64 j
  | 18 => fun _ v => v = .int .i64 (j + 1 : Nat)
  | 19 => fun _ v => v = vo'
  | 20 => fun _ v => v = .pointer (some ⟨X, 1, none⟩)
  | 21 => fun _ v => v = undef
  | 22 => fun _ v => v = .pointer (some ⟨X, 2, none⟩)
  | 23 => fun _ v => v = undef
  | _ => fun _ _ => True
/-- The values while an In is appended. -/
def RW (X kb : Nat) (n : Int) (vi : Value) (n1 i : Nat) (x : PIn) (wv : Value) : Nat → Fact
  | 0 => .val fun _ => .pointer (some ⟨X, 1, none⟩)
  | 1 => .val fun _ => vi
  | 2 => .val fun _ => .pointer (some ⟨X, 1, none⟩)
  | 3 => .val fun _ => vi
  | 4 => .val fun _ => .int .u8 n
  | 5 => .val fun _ => .int .i64 n
  | 6 => .val fun _ => .pointer (some ⟨X, 1, none⟩)
  | 7 => .val fun _ => vi
  | 8 => .val fun _ => .int .i64 n1
  | 9 => .val fun _ => .int .i64 i
  | 10 => .val fun _ => .pointer (some ⟨kb, i * 4, none⟩)
  | 11 => .val fun _ => .agg #[.string x.id, .int .u32 x.idx, .int .u32 x.seq, wv]
  | 12 => .row 1 fun _ => .cells #[.string x.id, .int .u32 x.idx, .int .u32 x.seq, wv] 43 (0, 0)
  | _ => .any
theorem conv_u8 (n : Int) (h : 0 ≤ n ∧ n ≤ 255) (w : World) : (convert 5 3 (.int .u8 n)).run Try.prog w = .ok (.int .i64 n) w := by
  have h1 : (convert 5 3 (.int .u8 n)).run Try.prog w = .ok (.int .i64 (IntKind.i64.wrap n)) w := by kernel_rfl
  have e : IntKind.i64.wrap n = n := by rw [IntKind.wrap_i64]; omega
  rw [h1, e]
theorem wf_u8 {n : Int} (h : (Lit.int .u8 n).wf = true) : 0 ≤ n ∧ n ≤ 255 := by simpa [Lit.wf, IntKind.min, IntKind.max, IntKind.signed, IntKind.bits] using h
theorem rem_nat (n : Int) (l i : Nat) (hl : 0 < l) (hl2 : l ≤ 8) (h0 : 0 ≤ n ∧ n ≤ 255) (hi : n % (l : Int) = (i : Int)) (w : World) : (binOp .rem 3 (.int .i64 n) (.int .i64 l)).run Try.prog w = .ok (.int .i64 i) w := by
  have hne : ¬ (l = 0) := by omega
  have h1 : n.tmod l = (i : Int) := by rw [Int.tmod_eq_emod_of_nonneg h0.1]; exact hi
  have h2 : IntKind.i64.wrap (i : Int) = i := by have := Int.emod_lt_of_pos n (show (0 : Int) < l by omega); rw [IntKind.wrap_i64]; omega
  simp [go_sem, hne, h1, h2]
theorem ex_rem {P : Program} {o : Oper} {a : Act} {w w' : World} {v vx vy : Value} (x y : Operand) (t : TypeId) (ho : o.op = .binOp .rem t x y t) (hx : a.eval x = vx) (hy : a.eval y = vy) (hrun : (binOp .rem t vx vy).run P w = .ok v w') : (execOp a.eval o).run P w = .ok (.value v) w' := by
  simp [execOp, eqGuard, ho, hx, hy, hrun, Result.andThen]
theorem ex_store1 {P : Program} {o : Oper} {a : Act} {w : World} {b j : Nat} {u old : Value} (x y : Operand) (t : TypeId) (ho : o.op = .store t x y) (hx : a.eval x = .pointer (some ⟨b, j, none⟩)) (hy : a.eval y = u)
    (hrun : (Instr.storeAt t (.pointer (some ⟨b, j, none⟩)) u).run P w = .ok () (w.setCell ⟨b, j, none⟩ u)) : (execOp a.eval o).run P w = .ok .skip (w.setCell ⟨b, j, none⟩ u) := by
  simp [execOp, ho, hx, hy, hrun, Result.andThen]

set_option maxRecDepth 100000 in
set_option maxHeartbeats 1000000 in
theorem txFewer_walk (v : Value) (t0 : PTx) (n m : Int) (w : World) (hv : TxAt w v t0) (hn : (Lit.int .u8 n).wf = true) (hm : (Lit.int .u8 m).wf = true) : Calls Try.prog 7 #[v, .int .u8 n, .int .u8 m] w (BIs true w) := by
  have hv' := hv
  obtain ⟨va, vo, rfl, hia, hob, -, -⟩ := hv
  obtain ⟨a, c, rfl, -, -⟩ := hia.shape
  obtain ⟨a', c', rfl, -, -⟩ := hob.shape
  obtain ⟨l1, hl1⟩ : ∃ n, n = t0.ins.length := ⟨_, rfl⟩
  obtain ⟨l2, hl2⟩ : ∃ n, n = t0.outs.length := ⟨_, rfl⟩
  rw [← hl1, ← hl2] at hv' ⊢
  have HNW := Lib.hid (wf_u8 hn)
  have HMW := Lib.hid (wf_u8 hm)
  have HV := Lib.hid hv'
  clear hia hob hl1 hl2 hv' hn hm
  go_enter Try.func7, Try.ntmps7
  go_upto_region 1 with fail
  have hz := heap_alloc_new w (.cells #[.int .u32 t0.ver, .slice a l1 c, .slice a' l2 c', .int .u32 t0.lock] 26)
  have hal : Below w.heap.size w (w.alloc (.cells #[.int .u32 t0.ver, .slice a l1 c, .slice a' l2 c', .int .u32 t0.lock] 26)) := (Below.refl _ _).alloc (Nat.le_refl _) _
  obtain ⟨X, hX⟩ : ∃ q, q = w.heap.size := ⟨_, rfl⟩
  rw [← hX] at hz ⊢
  generalize w.alloc (.cells #[.int .u32 t0.ver, .slice a l1 c, .slice a' l2 c', .int .u32 t0.lock] 26) = w0 at *
  have p0 : w0.cell? ⟨X, 0, none⟩ = some (.int .u32 t0.ver) := cell_at hz
  have p1 : w0.cell? ⟨X, 1, none⟩ = some (.slice a l1 c) := cell_at hz
  have p2 : w0.cell? ⟨X, 2, none⟩ = some (.slice a' l2 c') := cell_at hz
  have p3 : w0.cell? ⟨X, 3, none⟩ = some (.int .u32 t0.lock) := cell_at hz
  have HB0 := Lib.hid hal
  have HV0 := Lib.hid (HV.out.below hal)
  clear hz hal hX HV
  go_wp2_with fail
  refine (fit_any _ t0 w0 HV0.out).mono ?_
  rintro en w1 ⟨vu, u, rfl, hown, hfit, hb⟩
  obtain ⟨⟨vi1, vo1, ps1, rfl, hp1, hi1, ho1, -⟩, -, -⟩ := id hown
  obtain ⟨ai, ci, e1, -, -⟩ := ownsRow_shape hi1.row
  obtain ⟨ao, co, e2, -, -⟩ := ownsRow_shape ho1.row
  obtain ⟨n1, hn1⟩ : ∃ n, n = ps1.length := ⟨_, rfl⟩
  obtain ⟨m1, hm1⟩ : ∃ n, n = u.outs.length := ⟨_, rfl⟩
  rw [← hn1] at e1
  rw [← hm1] at e2
  subst e1
  subst e2
  have HN1 := Lib.hid (show n1 = u.ins.length ∧ m1 = u.outs.length by rw [hp1, List.length_map]; exact ⟨hn1, hm1⟩)
  have HB1 := Lib.hid (HB0.out.trans (hb.mono HB0.out.size))
  have HU1 := Lib.hid hown.tx
  have HF := Lib.hid hfit
  clear hown hfit hi1 ho1 hp1 hn1 hm1 hb p0 p1 p2 p3 HV0 HB0
  go_upto_region 2 with fail
  have hz := heap_alloc_new w1 (.cells #[.int .u32 u.ver, .slice ai n1 ci, .slice ao m1 co, .int .u32 u.lock] 26)
  have hal : Below w1.heap.size w1 (w1.alloc (.cells #[.int .u32 u.ver, .slice ai n1 ci, .slice ao m1 co, .int .u32 u.lock] 26)) := (Below.refl _ _).alloc (Nat.le_refl _) _
  obtain ⟨A7, hA7⟩ : ∃ q, q = w1.heap.size := ⟨_, rfl⟩
  rw [← hA7] at hz ⊢
  generalize w1.alloc (.cells #[.int .u32 u.ver, .slice ai n1 ci, .slice ao m1 co, .int .u32 u.lock] 26) = w2 at *
  have u0 : w2.cell? ⟨A7, 0, none⟩ = some (.int .u32 u.ver) := cell_at hz
  have u1 : w2.cell? ⟨A7, 1, none⟩ = some (.slice ai n1 ci) := cell_at hz
  have u2 : w2.cell? ⟨A7, 2, none⟩ = some (.slice ao m1 co) := cell_at hz
  have u3 : w2.cell? ⟨A7, 3, none⟩ = some (.int .u32 u.lock) := cell_at hz
  have HB := Lib.hid (HB1.out.trans (hal.mono HB1.out.size))
  have HU := Lib.hid (HU1.out.below hal)
  have HLT := Lib.hid (show A7 < w2.heap.size from (Array.getElem?_eq_some_iff.1 hz).1)
  clear hz hal hA7 HB1 HU1
  go_wp2_with fail
  refine (wakes_any w2).mono ?_
  rintro en w3 ⟨rfl, hb⟩
  replace u0 := below_cells hb _ _ u0
  replace u1 := below_cells hb _ _ u1
  replace u2 := below_cells hb _ _ u2
  replace u3 := below_cells hb _ _ u3
  have HB := Lib.hid (HB.out.trans (hb.mono HB.out.size))
  have HU := Lib.hid (HU.out.below hb)
  have HLT := Lib.hid (Nat.lt_of_lt_of_le HLT.out hb.size)
  clear hb
  obtain ⟨ck, hck⟩ : ∃ c, c = checkOf u := ⟨_, rfl⟩
  have HCK := Lib.hid (hck ▸ check_any _ u w3 HU.out (fitted_len HF.out))
  by_cases h0 : ck = 0
  rotate_left
  · clear hck
    go_wp2_with fail
    refine HCK.out.mono ?_
    rintro en w4 ⟨rfl, hb⟩
    replace u0 := below_cells hb _ _ u0
    replace u1 := below_cells hb _ _ u1
    replace u2 := below_cells hb _ _ u2
    replace u3 := below_cells hb _ _ u3
    have HB := Lib.hid (HB.out.trans (hb.mono HB.out.size))
    clear hb
    go_wp2_with fail
    refine (wakes_any w4).mono ?_
    rintro en w5 ⟨rfl, hb⟩
    have HB := Lib.hid (HB.out.trans (hb.mono HB.out.size))
    clear hb
    go_wp2_with fail
    go_ret
    exact ⟨rfl, HB.out⟩
  subst h0
  have HW := Lib.hid (whole_of hck.symm)
  clear hck
  go_wp2_with fail
  refine HCK.out.mono ?_
  rintro en w4 ⟨rfl, hb⟩
  replace u0 := below_cells hb _ _ u0
  replace u1 := below_cells hb _ _ u1
  replace u2 := below_cells hb _ _ u2
  replace u3 := below_cells hb _ _ u3
  have HB := Lib.hid (HB.out.trans (hb.mono HB.out.size))
  have HU := Lib.hid (HU.out.below hb)
  have HLT := Lib.hid (Nat.lt_of_lt_of_le HLT.out hb.size)
  clear hb
  go_wp2_with fail
  refine (total_any _ u w4 HU.out (fitted_len HF.out)).mono ?_
  rintro en w5 ⟨rfl, hb⟩
  replace u0 := below_cells hb _ _ u0
  replace u1 := below_cells hb _ _ u1
  replace u2 := below_cells hb _ _ u2
  replace u3 := below_cells hb _ _ u3
  have HB := Lib.hid (HB.out.trans (hb.mono HB.out.size))
  have HU := Lib.hid (HU.out.below hb)
  have HLT := Lib.hid (Nat.lt_of_lt_of_le HLT.out hb.size)
  clear hb HCK
  obtain ⟨S, hS⟩ : ∃ s, s = (sumA 0 (u.outs.map (·.val))).1 := ⟨_, rfl⟩
  have hE : (sumA 0 (u.outs.map (·.val))).2 = 0 := HW.out.sum
  rw [hE, ← hS]
  have HS := Lib.hid hS
  clear hE hS
  have HFI := Lib.hid (show u.ins.length ≤ 1000 ∧ u.outs.length ≤ 1000 ∧ ∀ x ∈ u.ins, x.wit.length ≤ 1000 from ⟨by have := HF.out.few.1; omega, by have := HF.out.few.2; omega, fun x hx => by have := (HF.out.ins x hx).len; omega⟩)
  go_wp2_with fail
  refine (copy_any _ u w5 HU.out HFI.out.1 HFI.out.2.1 HFI.out.2.2).mono ?_
  rintro en w6 ⟨vv, rfl, hown, hb⟩
  obtain ⟨⟨vi2, vo2, ps2, rfl, hp2, hi2, ho2, -⟩, -, -⟩ := id hown
  obtain ⟨aj, cj, e1, -, hcj⟩ := ownsRow_shape hi2.row
  obtain ⟨aq, cq, e2, -, hcq⟩ := ownsRow_shape ho2.row
  rw [maxLen_eq] at hcj hcq
  have hl2 : ps2.length = n1 := by rw [HN1.out.1, hp2, List.length_map]
  rw [hl2] at e1
  rw [← HN1.out.2] at e2
  subst e1
  subst e2
  have HU6 := Lib.hid (HU.out.below hb)
  have HB6 := Lib.hid (HB.out.trans (hb.mono HB.out.size))
  have HLT6 := Lib.hid (Nat.lt_of_lt_of_le HLT.out hb.size)
  have hc1 : n1 ≤ cj := by
    obtain ⟨a9, c9, e9, h9, -⟩ := ownsRow_shape hi2.row
    obtain ⟨-, -, rfl⟩ : aj = a9 ∧ n1 = ps2.length ∧ cj = c9 := by simpa using e9
    omega
  have hc2 : m1 ≤ cq := by
    obtain ⟨a9, c9, e9, h9, -⟩ := ownsRow_shape ho2.row
    obtain ⟨-, -, rfl⟩ : aq = a9 ∧ m1 = u.outs.length ∧ cq = c9 := by simpa using e9
    have := HN1.out.2
    omega
  replace u0 := below_cells hb _ _ u0
  replace u1 := below_cells hb _ _ u1
  replace u2 := below_cells hb _ _ u2
  replace u3 := below_cells hb _ _ u3
  have HI2 := Lib.hid hi2.sl
  have HO2 := Lib.hid ho2.sl
  have HP2 := Lib.hid hp2
  clear hown hi2 ho2 hp2 hl2 hb HU HB HLT
  go_upto_region 6 with fail
  have hz := heap_alloc_new w6 (.cells #[.int .u32 u.ver, .slice aj n1 cj, .slice aq m1 cq, .int .u32 u.lock] 26)
  have hal : Below w6.heap.size w6 (w6.alloc (.cells #[.int .u32 u.ver, .slice aj n1 cj, .slice aq m1 cq, .int .u32 u.lock] 26)) := (Below.refl _ _).alloc (Nat.le_refl _) _
  obtain ⟨A10, hA10⟩ : ∃ q, q = w6.heap.size := ⟨_, rfl⟩
  rw [← hA10] at hz ⊢
  generalize w6.alloc (.cells #[.int .u32 u.ver, .slice aj n1 cj, .slice aq m1 cq, .int .u32 u.lock] 26) = w7 at *
  have hb := hal
  replace u0 := below_cells hb _ _ u0
  replace u1 := below_cells hb _ _ u1
  replace u2 := below_cells hb _ _ u2
  replace u3 := below_cells hb _ _ u3
  have hlt6 := HLT6.out
  have HL := Lib.hid (show A7 < A10 ∧ A10 = w6.heap.size from ⟨by omega, hA10⟩)
  have HZ := Lib.hid hz
  have H67 := Lib.hid hal
  clear hz hal hA10 hb hlt6
  obtain ⟨hnm, h8⟩ : (1 ≤ n1 ∧ 1 ≤ m1) ∧ (n1 ≤ 8 ∧ m1 ≤ 8) := by
    have h1 := (counts_parts HW.out.counts).1
    have h2 := HF.out.few
    have h3 := HN1.out
    omega
  obtain ⟨ri, hi⟩ : ∃ i : Nat, n % (n1 : Int) = (i : Int) := ⟨(n % (n1 : Int)).toNat, by have := Int.emod_nonneg n (show (n1 : Int) ≠ 0 by omega); omega⟩
  obtain ⟨rj, hj⟩ : ∃ j : Nat, m % (m1 : Int) = (j : Int) := ⟨(m % (m1 : Int)).toNat, by have := Int.emod_nonneg m (show (m1 : Int) ≠ 0 by omega); omega⟩
  have hin : ri < n1 := by have := Int.emod_lt_of_pos n (show (0 : Int) < n1 by omega); omega
  have hjm : rj < m1 := by have := Int.emod_lt_of_pos m (show (0 : Int) < m1 by omega); omega
  have HR1 := Lib.hid (fun w => rem_nat n n1 ri (by omega) (by omega) HNW.out hi w)
  have HR2 := Lib.hid (fun w => rem_nat m m1 rj (by omega) (by omega) HMW.out hj w)
  have HIJ := Lib.hid (And.intro (And.intro hin hjm) (And.intro h8 (And.intro hc1 hc2)))
  clear hi hj hnm h8 hin hjm hc1 hc2 hcj hcq
  refine wp_region_vals (RV A10 n m (.slice aj n1 cj) (.slice aj (ri + 1) cj) (.slice aq m1 cq) (.slice aq (rj + 1) cq) n1 m1 ri rj) (WS w7 A10 (.int .u32 u.ver) (.int .u32 u.lock) (.slice aj n1 cj) (.slice aj (ri + 1) cj) (.slice aq m1 cq) (.slice aq (rj + 1) cq) 21 23) (by kernel_rfl) (by kernel_rfl) (by kernel_rfl) (by kernel_rfl) (⟨⟨_, _, HZ.out, False.elim, fun _ => rfl, False.elim, fun _ => rfl⟩, ⟨rfl, rfl, rfl, Nat.le_refl _, fun _ _ => rfl⟩, fun _ _ => rfl⟩) ?_ ?_
  · intro i o hi ho L xs wr hmd hw hni hpre
    obtain ⟨x0, x1, x2, x3, x4, x5, x6, x7, x8, x9, x10, x11, x12, x13, x14, x15, x16, x17, x18, x19, x20, x21, x22, x23, rfl⟩ : ∃ x0 x1 x2 x3 x4 x5 x6 x7 x8 x9 x10 x11 x12 x13 x14 x15 x16 x17 x18 x19 x20 x21 x22 x23, xs = [x0, x1, x2, x3, x4, x5, x6, x7, x8, x9, x10, x11, x12, x13, x14, x15, x16, x17, x18, x19, x20, x21, x22, x23] := by match xs, hmd.len with | [x0, x1, x2, x3, x4, x5, x6, x7, x8, x9, x10, x11, x12, x13, x14, x15, x16, x17, x18, x19, x20, x21, x22, x23], _ => exact ⟨_, _, _, _, _, _, _, _, _, _, _, _, _, _, _, _, _, _, _, _, _, _, _, _, rfl⟩
    match i, ho with
    | 0, ho =>
      obtain rfl := Option.some.inj ho
      have kk := fun lx ox ax => @vstep_run Try.prog lx [x0, x1, x2, x3, x4, x5, x6, x7, x8, x9, x10, x11, x12, x13, x14, x15, x16, x17, x18, x19, x20, x21, x22, x23] (RV A10 n m (.slice aj n1 cj) (.slice aj (ri + 1) cj) (.slice aq m1 cq) (.slice aq (rj + 1) cq) n1 m1 ri rj) (WS w7 A10 (.int .u32 u.ver) (.int .u32 u.lock) (.slice aj n1 cj) (.slice aj (ri + 1) cj) (.slice aq m1 cq) (.slice aq (rj + 1) cq) 21 23) L ox ax wr wr 0 (.pointer (some ⟨A10, 1, none⟩))
      refine kk _ _ _ ?_ ?_ ?_
      · kernel_rfl
      · exact rfl
      · exact hw.add 0 (by decide) (by decide)
    | 1, ho =>
      obtain rfl := Option.some.inj ho
      have h_0 : x0 = .pointer (some ⟨A10, 1, none⟩) := hmd.rel 0 (hpre 0 (by kernel_rfl))
      subst h_0
      have kk := fun lx ox ax => @vstep_run Try.prog lx [(.pointer (some ⟨A10, 1, none⟩)), x1, x2, x3, x4, x5, x6, x7, x8, x9, x10, x11, x12, x13, x14, x15, x16, x17, x18, x19, x20, x21, x22, x23] (RV A10 n m (.slice aj n1 cj) (.slice aj (ri + 1) cj) (.slice aq m1 cq) (.slice aq (rj + 1) cq) n1 m1 ri rj) (WS w7 A10 (.int .u32 u.ver) (.int .u32 u.lock) (.slice aj n1 cj) (.slice aj (ri + 1) cj) (.slice aq m1 cq) (.slice aq (rj + 1) cq) 21 23) L ox ax wr wr 1 (.slice aj n1 cj)
      refine kk _ _ _ ?_ ?_ ?_
      · simp [putAll, execOp, go_sem, (hw.c1 (fun h => hni (hmd.closed 21 h 1 (by kernel_rfl)))).1]
      · exact rfl
      · exact hw.add 1 (by decide) (by decide)
    | 2, ho =>
      obtain rfl := Option.some.inj ho
      have kk := fun lx ox ax => @vstep_run Try.prog lx [x0, x1, x2, x3, x4, x5, x6, x7, x8, x9, x10, x11, x12, x13, x14, x15, x16, x17, x18, x19, x20, x21, x22, x23] (RV A10 n m (.slice aj n1 cj) (.slice aj (ri + 1) cj) (.slice aq m1 cq) (.slice aq (rj + 1) cq) n1 m1 ri rj) (WS w7 A10 (.int .u32 u.ver) (.int .u32 u.lock) (.slice aj n1 cj) (.slice aj (ri + 1) cj) (.slice aq m1 cq) (.slice aq (rj + 1) cq) 21 23) L ox ax wr wr 2 (.int .u8 n)
      refine kk _ _ _ ?_ ?_ ?_
      · kernel_rfl
      · exact rfl
      · exact hw.add 2 (by decide) (by decide)
    | 3, ho =>
      obtain rfl := Option.some.inj ho
      have h_2 : x2 = .int .u8 n := hmd.rel 2 (hpre 2 (by kernel_rfl))
      subst h_2
      have kk := fun lx ox ax => @vstep_run Try.prog lx [x0, x1, (.int .u8 n), x3, x4, x5, x6, x7, x8, x9, x10, x11, x12, x13, x14, x15, x16, x17, x18, x19, x20, x21, x22, x23] (RV A10 n m (.slice aj n1 cj) (.slice aj (ri + 1) cj) (.slice aq m1 cq) (.slice aq (rj + 1) cq) n1 m1 ri rj) (WS w7 A10 (.int .u32 u.ver) (.int .u32 u.lock) (.slice aj n1 cj) (.slice aj (ri + 1) cj) (.slice aq m1 cq) (.slice aq (rj + 1) cq) 21 23) L ox ax wr wr 3 (.int .i64 n)
      refine kk _ _ _ ?_ ?_ ?_
      · (refine ex_convert (.tmp 34) _ _ rfl ?_ (conv_u8 n HNW.out wr); kernel_rfl)
      · exact rfl
      · exact hw.add 3 (by decide) (by decide)
    | 4, ho =>
      obtain rfl := Option.some.inj ho
      have kk := fun lx ox ax => @vstep_run Try.prog lx [x0, x1, x2, x3, x4, x5, x6, x7, x8, x9, x10, x11, x12, x13, x14, x15, x16, x17, x18, x19, x20, x21, x22, x23] (RV A10 n m (.slice aj n1 cj) (.slice aj (ri + 1) cj) (.slice aq m1 cq) (.slice aq (rj + 1) cq) n1 m1 ri rj) (WS w7 A10 (.int .u32 u.ver) (.int .u32 u.lock) (.slice aj n1 cj) (.slice aj (ri + 1) cj) (.slice aq m1 cq) (.slice aq (rj + 1) cq) 21 23) L ox ax wr wr 4 (.pointer (some ⟨A10, 1, none⟩))
      refine kk _ _ _ ?_ ?_ ?_
      · kernel_rfl
      · exact rfl
      · exact hw.add 4 (by decide) (by decide)
    | 5, ho =>
      obtain rfl := Option.some.inj ho
      have h_4 : x4 = .pointer (some ⟨A10, 1, none⟩) := hmd.rel 4 (hpre 4 (by kernel_rfl))
      subst h_4
      have kk := fun lx ox ax => @vstep_run Try.prog lx [x0, x1, x2, x3, (.pointer (some ⟨A10, 1, none⟩)), x5, x6, x7, x8, x9, x10, x11, x12, x13, x14, x15, x16, x17, x18, x19, x20, x21, x22, x23] (RV A10 n m (.slice aj n1 cj) (.slice aj (ri + 1) cj) (.slice aq m1 cq) (.slice aq (rj + 1) cq) n1 m1 ri rj) (WS w7 A10 (.int .u32 u.ver) (.int .u32 u.lock) (.slice aj n1 cj) (.slice aj (ri + 1) cj) (.slice aq m1 cq) (.slice aq (rj + 1) cq) 21 23) L ox ax wr wr 5 (.slice aj n1 cj)
      refine kk _ _ _ ?_ ?_ ?_
      · simp [putAll, execOp, go_sem, (hw.c1 (fun h => hni (hmd.closed 21 h 5 (by kernel_rfl)))).1]
      · exact rfl
      · exact hw.add 5 (by decide) (by decide)
    | 6, ho =>
      obtain rfl := Option.some.inj ho
      have h_5 : x5 = .slice aj n1 cj := hmd.rel 5 (hpre 5 (by kernel_rfl))
      subst h_5
      have kk := fun lx ox ax => @vstep_run Try.prog lx [x0, x1, x2, x3, x4, (.slice aj n1 cj), x6, x7, x8, x9, x10, x11, x12, x13, x14, x15, x16, x17, x18, x19, x20, x21, x22, x23] (RV A10 n m (.slice aj n1 cj) (.slice aj (ri + 1) cj) (.slice aq m1 cq) (.slice aq (rj + 1) cq) n1 m1 ri rj) (WS w7 A10 (.int .u32 u.ver) (.int .u32 u.lock) (.slice aj n1 cj) (.slice aj (ri + 1) cj) (.slice aq m1 cq) (.slice aq (rj + 1) cq) 21 23) L ox ax wr wr 6 (.int .i64 n1)
      refine kk _ _ _ ?_ ?_ ?_
      · kernel_rfl
      · exact rfl
      · exact hw.add 6 (by decide) (by decide)
    | 7, ho =>
      obtain rfl := Option.some.inj ho
      have h_3 : x3 = .int .i64 n := hmd.rel 3 (hpre 3 (by kernel_rfl))
      subst h_3
      have h_6 : x6 = .int .i64 n1 := hmd.rel 6 (hpre 6 (by kernel_rfl))
      subst h_6
      have kk := fun lx ox ax => @vstep_run Try.prog lx [x0, x1, x2, (.int .i64 n), x4, x5, (.int .i64 n1), x7, x8, x9, x10, x11, x12, x13, x14, x15, x16, x17, x18, x19, x20, x21, x22, x23] (RV A10 n m (.slice aj n1 cj) (.slice aj (ri + 1) cj) (.slice aq m1 cq) (.slice aq (rj + 1) cq) n1 m1 ri rj) (WS w7 A10 (.int .u32 u.ver) (.int .u32 u.lock) (.slice aj n1 cj) (.slice aj (ri + 1) cj) (.slice aq m1 cq) (.slice aq (rj + 1) cq) 21 23) L ox ax wr wr 7 (.int .i64 ri)
      refine kk _ _ _ ?_ ?_ ?_
      · (refine ex_rem (.tmp 35) (.tmp 38) _ rfl ?_ ?_ (HR1.out wr) <;> kernel_rfl)
      · exact rfl
      · exact hw.add 7 (by decide) (by decide)
    | 8, ho =>
      obtain rfl := Option.some.inj ho
      have h_7 : x7 = .int .i64 ri := hmd.rel 7 (hpre 7 (by kernel_rfl))
      subst h_7
      have kk := fun lx ox ax => @vstep_run Try.prog lx [x0, x1, x2, x3, x4, x5, x6, (.int .i64 ri), x8, x9, x10, x11, x12, x13, x14, x15, x16, x17, x18, x19, x20, x21, x22, x23] (RV A10 n m (.slice aj n1 cj) (.slice aj (ri + 1) cj) (.slice aq m1 cq) (.slice aq (rj + 1) cq) n1 m1 ri rj) (WS w7 A10 (.int .u32 u.ver) (.int .u32 u.lock) (.slice aj n1 cj) (.slice aj (ri + 1) cj) (.slice aq m1 cq) (.slice aq (rj + 1) cq) 21 23) L ox ax wr wr 8 (.int .i64 (ri + 1 : Nat))
      refine kk _ _ _ ?_ ?_ ?_
      · (have h := HIJ.out; simp [putAll, execOp, eqGuard, go_sem]; rw [IntKind.wrap_i64]; omega)
      · exact rfl
      · exact hw.add 8 (by decide) (by decide)
    | 9, ho =>
      obtain rfl := Option.some.inj ho
      have h_1 : x1 = .slice aj n1 cj := hmd.rel 1 (hpre 1 (by kernel_rfl))
      subst h_1
      have h_8 : x8 = .int .i64 (ri + 1 : Nat) := hmd.rel 8 (hpre 8 (by kernel_rfl))
      subst h_8
      have kk := fun lx ox ax => @vstep_run Try.prog lx [x0, (.slice aj n1 cj), x2, x3, x4, x5, x6, x7, (.int .i64 (ri + 1 : Nat)), x9, x10, x11, x12, x13, x14, x15, x16, x17, x18, x19, x20, x21, x22, x23] (RV A10 n m (.slice aj n1 cj) (.slice aj (ri + 1) cj) (.slice aq m1 cq) (.slice aq (rj + 1) cq) n1 m1 ri rj) (WS w7 A10 (.int .u32 u.ver) (.int .u32 u.lock) (.slice aj n1 cj) (.slice aj (ri + 1) cj) (.slice aq m1 cq) (.slice aq (rj + 1) cq) 21 23) L ox ax wr wr 9 (.slice aj (ri + 1) cj)
      refine kk _ _ _ ?_ ?_ ?_
      · (have h := HIJ.out; simp [putAll, execOp, go_sem]; intro h2; have := h2 (by omega); omega)
      · exact rfl
      · exact hw.add 9 (by decide) (by decide)
    | 10, ho =>
      obtain rfl := Option.some.inj ho
      have kk := fun lx ox ax => @vstep_run Try.prog lx [x0, x1, x2, x3, x4, x5, x6, x7, x8, x9, x10, x11, x12, x13, x14, x15, x16, x17, x18, x19, x20, x21, x22, x23] (RV A10 n m (.slice aj n1 cj) (.slice aj (ri + 1) cj) (.slice aq m1 cq) (.slice aq (rj + 1) cq) n1 m1 ri rj) (WS w7 A10 (.int .u32 u.ver) (.int .u32 u.lock) (.slice aj n1 cj) (.slice aj (ri + 1) cj) (.slice aq m1 cq) (.slice aq (rj + 1) cq) 21 23) L ox ax wr wr 10 (.pointer (some ⟨A10, 2, none⟩))
      refine kk _ _ _ ?_ ?_ ?_
      · kernel_rfl
      · exact rfl
      · exact hw.add 10 (by decide) (by decide)
    | 11, ho =>
      obtain rfl := Option.some.inj ho
      have h_10 : x10 = .pointer (some ⟨A10, 2, none⟩) := hmd.rel 10 (hpre 10 (by kernel_rfl))
      subst h_10
      have kk := fun lx ox ax => @vstep_run Try.prog lx [x0, x1, x2, x3, x4, x5, x6, x7, x8, x9, (.pointer (some ⟨A10, 2, none⟩)), x11, x12, x13, x14, x15, x16, x17, x18, x19, x20, x21, x22, x23] (RV A10 n m (.slice aj n1 cj) (.slice aj (ri + 1) cj) (.slice aq m1 cq) (.slice aq (rj + 1) cq) n1 m1 ri rj) (WS w7 A10 (.int .u32 u.ver) (.int .u32 u.lock) (.slice aj n1 cj) (.slice aj (ri + 1) cj) (.slice aq m1 cq) (.slice aq (rj + 1) cq) 21 23) L ox ax wr wr 11 (.slice aq m1 cq)
      refine kk _ _ _ ?_ ?_ ?_
      · simp [putAll, execOp, go_sem, (hw.c2 (fun h => hni (hmd.closed 23 h 11 (by kernel_rfl)))).1]
      · exact rfl
      · exact hw.add 11 (by decide) (by decide)
    | 12, ho =>
      obtain rfl := Option.some.inj ho
      have kk := fun lx ox ax => @vstep_run Try.prog lx [x0, x1, x2, x3, x4, x5, x6, x7, x8, x9, x10, x11, x12, x13, x14, x15, x16, x17, x18, x19, x20, x21, x22, x23] (RV A10 n m (.slice aj n1 cj) (.slice aj (ri + 1) cj) (.slice aq m1 cq) (.slice aq (rj + 1) cq) n1 m1 ri rj) (WS w7 A10 (.int .u32 u.ver) (.int .u32 u.lock) (.slice aj n1 cj) (.slice aj (ri + 1) cj) (.slice aq m1 cq) (.slice aq (rj + 1) cq) 21 23) L ox ax wr wr 12 (.int .u8 m)
      refine kk _ _ _ ?_ ?_ ?_
      · kernel_rfl
      · exact rfl
      · exact hw.add 12 (by decide) (by decide)
    | 13, ho =>
      obtain rfl := Option.some.inj ho
      have h_12 : x12 = .int .u8 m := hmd.rel 12 (hpre 12 (by kernel_rfl))
      subst h_12
      have kk := fun lx ox ax => @vstep_run Try.prog lx [x0, x1, x2, x3, x4, x5, x6, x7, x8, x9, x10, x11, (.int .u8 m), x13, x14, x15, x16, x17, x18, x19, x20, x21, x22, x23] (RV A10 n m (.slice aj n1 cj) (.slice aj (ri + 1) cj) (.slice aq m1 cq) (.slice aq (rj + 1) cq) n1 m1 ri rj) (WS w7 A10 (.int .u32 u.ver) (.int .u32 u.lock) (.slice aj n1 cj) (.slice aj (ri + 1) cj) (.slice aq m1 cq) (.slice aq (rj + 1) cq) 21 23) L ox ax wr wr 13 (.int .i64 m)
      refine kk _ _ _ ?_ ?_ ?_
      · (refine ex_convert (.tmp 44) _ _ rfl ?_ (conv_u8 m HMW.out wr); kernel_rfl)
      · exact rfl
      · exact hw.add 13 (by decide) (by decide)
    | 14, ho =>
      obtain rfl := Option.some.inj ho
      have kk := fun lx ox ax => @vstep_run Try.prog lx [x0, x1, x2, x3, x4, x5, x6, x7, x8, x9, x10, x11, x12, x13, x14, x15, x16, x17, x18, x19, x20, x21, x22, x23] (RV A10 n m (.slice aj n1 cj) (.slice aj (ri + 1) cj) (.slice aq m1 cq) (.slice aq (rj + 1) cq) n1 m1 ri rj) (WS w7 A10 (.int .u32 u.ver) (.int .u32 u.lock) (.slice aj n1 cj) (.slice aj (ri + 1) cj) (.slice aq m1 cq) (.slice aq (rj + 1) cq) 21 23) L ox ax wr wr 14 (.pointer (some ⟨A10, 2, none⟩))
      refine kk _ _ _ ?_ ?_ ?_
      · kernel_rfl
      · exact rfl
      · exact hw.add 14 (by decide) (by decide)
    | 15, ho =>
      obtain rfl := Option.some.inj ho
      have h_14 : x14 = .pointer (some ⟨A10, 2, none⟩) := hmd.rel 14 (hpre 14 (by kernel_rfl))
      subst h_14
      have kk := fun lx ox ax => @vstep_run Try.prog lx [x0, x1, x2, x3, x4, x5, x6, x7, x8, x9, x10, x11, x12, x13, (.pointer (some ⟨A10, 2, none⟩)), x15, x16, x17, x18, x19, x20, x21, x22, x23] (RV A10 n m (.slice aj n1 cj) (.slice aj (ri + 1) cj) (.slice aq m1 cq) (.slice aq (rj + 1) cq) n1 m1 ri rj) (WS w7 A10 (.int .u32 u.ver) (.int .u32 u.lock) (.slice aj n1 cj) (.slice aj (ri + 1) cj) (.slice aq m1 cq) (.slice aq (rj + 1) cq) 21 23) L ox ax wr wr 15 (.slice aq m1 cq)
      refine kk _ _ _ ?_ ?_ ?_
      · simp [putAll, execOp, go_sem, (hw.c2 (fun h => hni (hmd.closed 23 h 15 (by kernel_rfl)))).1]
      · exact rfl
      · exact hw.add 15 (by decide) (by decide)
    | 16, ho =>
      obtain rfl := Option.some.inj ho
      have h_15 : x15 = .slice aq m1 cq := hmd.rel 15 (hpre 15 (by kernel_rfl))
      subst h_15
      have kk := fun lx ox ax => @vstep_run Try.prog lx [x0, x1, x2, x3, x4, x5, x6, x7, x8, x9, x10, x11, x12, x13, x14, (.slice aq m1 cq), x16, x17, x18, x19, x20, x21, x22, x23] (RV A10 n m (.slice aj n1 cj) (.slice aj (ri + 1) cj) (.slice aq m1 cq) (.slice aq (rj + 1) cq) n1 m1 ri rj) (WS w7 A10 (.int .u32 u.ver) (.int .u32 u.lock) (.slice aj n1 cj) (.slice aj (ri + 1) cj) (.slice aq m1 cq) (.slice aq (rj + 1) cq) 21 23) L ox ax wr wr 16 (.int .i64 m1)
      refine kk _ _ _ ?_ ?_ ?_
      · kernel_rfl
      · exact rfl
      · exact hw.add 16 (by decide) (by decide)
    | 17, ho =>
      obtain rfl := Option.some.inj ho
      have h_13 : x13 = .int .i64 m := hmd.rel 13 (hpre 13 (by kernel_rfl))
      subst h_13
      have h_16 : x16 = .int .i64 m1 := hmd.rel 16 (hpre 16 (by kernel_rfl))
      subst h_16
      have kk := fun lx ox ax => @vstep_run Try.prog lx [x0, x1, x2, x3, x4, x5, x6, x7, x8, x9, x10, x11, x12, (.int .i64 m), x14, x15, (.int .i64 m1), x17, x18, x19, x20, x21, x22, x23] (RV A10 n m (.slice aj n1 cj) (.slice aj (ri + 1) cj) (.slice aq m1 cq) (.slice aq (rj + 1) cq) n1 m1 ri rj) (WS w7 A10 (.int .u32 u.ver) (.int .u32 u.lock) (.slice aj n1 cj) (.slice aj (ri + 1) cj) (.slice aq m1 cq) (.slice aq (rj + 1) cq) 21 23) L ox ax wr wr 17 (.int .i64 rj)
      refine kk _ _ _ ?_ ?_ ?_
      · (refine ex_rem (.tmp 45) (.tmp 48) _ rfl ?_ ?_ (HR2.out wr) <;> kernel_rfl)
      · exact rfl
      · exact hw.add 17 (by decide) (by decide)
    | 18, ho =>
      obtain rfl := Option.some.inj ho
      have h_17 : x17 = .int .i64 rj := hmd.rel 17 (hpre 17 (by kernel_rfl))
      subst h_17
      have kk := fun lx ox ax => @vstep_run Try.prog lx [x0, x1, x2, x3, x4, x5, x6, x7, x8, x9, x10, x11, x12, x13, x14, x15, x16, (.int .i64 rj), x18, x19, x20, x21, x22, x23] (RV A10 n m (.slice aj n1 cj) (.slice aj (ri + 1) cj) (.slice aq m1 cq) (.slice aq (rj + 1) cq) n1 m1 ri rj) (WS w7 A10 (.int .u32 u.ver) (.int .u32 u.lock) (.slice aj n1 cj) (.slice aj (ri + 1) cj) (.slice aq m1 cq) (.slice aq (rj + 1) cq) 21 23) L ox ax wr wr 18 (.int .i64 (rj + 1 : Nat))
      refine kk _ _ _ ?_ ?_ ?_
      · (have h := HIJ.out; simp [putAll, execOp, eqGuard, go_sem]; rw [IntKind.wrap_i64]; omega)
      · exact rfl
      · exact hw.add 18 (by decide) (by decide)
    | 19, ho =>
      obtain rfl := Option.some.inj ho
      have h_11 : x11 = .slice aq m1 cq := hmd.rel 11 (hpre 11 (by kernel_rfl))
      subst h_11
      have h_18 : x18 = .int .i64 (rj + 1 : Nat) := hmd.rel 18 (hpre 18 (by kernel_rfl))
      subst h_18
      have kk := fun lx ox ax => @vstep_run Try.prog lx [x0, x1, x2, x3, x4, x5, x6, x7, x8, x9, x10, (.slice aq m1 cq), x12, x13, x14, x15, x16, x17, (.int .i64 (rj + 1 : Nat)), x19, x20, x21, x22, x23] (RV A10 n m (.slice aj n1 cj) (.slice aj (ri + 1) cj) (.slice aq m1 cq) (.slice aq (rj + 1) cq) n1 m1 ri rj) (WS w7 A10 (.int .u32 u.ver) (.int .u32 u.lock) (.slice aj n1 cj) (.slice aj (ri + 1) cj) (.slice aq m1 cq) (.slice aq (rj + 1) cq) 21 23) L ox ax wr wr 19 (.slice aq (rj + 1) cq)
      refine kk _ _ _ ?_ ?_ ?_
      · (have h := HIJ.out; simp [putAll, execOp, go_sem]; intro h2; have := h2 (by omega); omega)
      · exact rfl
      · exact hw.add 19 (by decide) (by decide)
    | 20, ho =>
      obtain rfl := Option.some.inj ho
      have kk := fun lx ox ax => @vstep_run Try.prog lx [x0, x1, x2, x3, x4, x5, x6, x7, x8, x9, x10, x11, x12, x13, x14, x15, x16, x17, x18, x19, x20, x21, x22, x23] (RV A10 n m (.slice aj n1 cj) (.slice aj (ri + 1) cj) (.slice aq m1 cq) (.slice aq (rj + 1) cq) n1 m1 ri rj) (WS w7 A10 (.int .u32 u.ver) (.int .u32 u.lock) (.slice aj n1 cj) (.slice aj (ri + 1) cj) (.slice aq m1 cq) (.slice aq (rj + 1) cq) 21 23) L ox ax wr wr 20 (.pointer (some ⟨A10, 1, none⟩))
      refine kk _ _ _ ?_ ?_ ?_
      · kernel_rfl
      · exact rfl
      · exact hw.add 20 (by decide) (by decide)
    | 21, ho =>
      obtain rfl := Option.some.inj ho
      have h_20 : x20 = .pointer (some ⟨A10, 1, none⟩) := hmd.rel 20 (hpre 20 (by kernel_rfl))
      subst h_20
      have h_9 : x9 = .slice aj (ri + 1) cj := hmd.rel 9 (hpre 9 (by kernel_rfl))
      subst h_9
      have kk := fun lx ox ax => @vstep_skip Try.prog lx [x0, x1, x2, x3, x4, x5, x6, x7, x8, (.slice aj (ri + 1) cj), x10, x11, x12, x13, x14, x15, x16, x17, x18, x19, (.pointer (some ⟨A10, 1, none⟩)), x21, x22, x23] (RV A10 n m (.slice aj n1 cj) (.slice aj (ri + 1) cj) (.slice aq m1 cq) (.slice aq (rj + 1) cq) n1 m1 ri rj) (WS w7 A10 (.int .u32 u.ver) (.int .u32 u.lock) (.slice aj n1 cj) (.slice aj (ri + 1) cj) (.slice aq m1 cq) (.slice aq (rj + 1) cq) 21 23) L ox ax wr (wr.setCell ⟨A10, 1, none⟩ (.slice aj (ri + 1) cj)) 21
      refine kk _ _ _ ?_ ?_ ?_
      · (have h1 := hw.c1 hni; simp [putAll, execOp, go_sem, h1.1, h1.2])
      · exact rfl
      · exact hw.st1 (by decide)
    | 22, ho =>
      obtain rfl := Option.some.inj ho
      have kk := fun lx ox ax => @vstep_run Try.prog lx [x0, x1, x2, x3, x4, x5, x6, x7, x8, x9, x10, x11, x12, x13, x14, x15, x16, x17, x18, x19, x20, x21, x22, x23] (RV A10 n m (.slice aj n1 cj) (.slice aj (ri + 1) cj) (.slice aq m1 cq) (.slice aq (rj + 1) cq) n1 m1 ri rj) (WS w7 A10 (.int .u32 u.ver) (.int .u32 u.lock) (.slice aj n1 cj) (.slice aj (ri + 1) cj) (.slice aq m1 cq) (.slice aq (rj + 1) cq) 21 23) L ox ax wr wr 22 (.pointer (some ⟨A10, 2, none⟩))
      refine kk _ _ _ ?_ ?_ ?_
      · kernel_rfl
      · exact rfl
      · exact hw.add 22 (by decide) (by decide)
    | 23, ho =>
      obtain rfl := Option.some.inj ho
      have h_22 : x22 = .pointer (some ⟨A10, 2, none⟩) := hmd.rel 22 (hpre 22 (by kernel_rfl))
      subst h_22
      have h_19 : x19 = .slice aq (rj + 1) cq := hmd.rel 19 (hpre 19 (by kernel_rfl))
      subst h_19
      have kk := fun lx ox ax => @vstep_skip Try.prog lx [x0, x1, x2, x3, x4, x5, x6, x7, x8, x9, x10, x11, x12, x13, x14, x15, x16, x17, x18, (.slice aq (rj + 1) cq), x20, x21, (.pointer (some ⟨A10, 2, none⟩)), x23] (RV A10 n m (.slice aj n1 cj) (.slice aj (ri + 1) cj) (.slice aq m1 cq) (.slice aq (rj + 1) cq) n1 m1 ri rj) (WS w7 A10 (.int .u32 u.ver) (.int .u32 u.lock) (.slice aj n1 cj) (.slice aj (ri + 1) cj) (.slice aq m1 cq) (.slice aq (rj + 1) cq) 21 23) L ox ax wr (wr.setCell ⟨A10, 2, none⟩ (.slice aq (rj + 1) cq)) 23
      refine kk _ _ _ ?_ ?_ ?_
      · (have h1 := hw.c2 hni; simp [putAll, execOp, go_sem, h1.1, h1.2])
      · exact rfl
      · exact hw.st2 (by decide)
    | q + 24, ho => exact absurd (List.getElem?_eq_some_iff.1 ho).1 (by simp)
  · intro xs wr hmd hw
    obtain ⟨x0, x1, x2, x3, x4, x5, x6, x7, x8, x9, x10, x11, x12, x13, x14, x15, x16, x17, x18, x19, x20, x21, x22, x23, rfl⟩ : ∃ x0 x1 x2 x3 x4 x5 x6 x7 x8 x9 x10 x11 x12 x13 x14 x15 x16 x17 x18 x19 x20 x21 x22 x23, xs = [x0, x1, x2, x3, x4, x5, x6, x7, x8, x9, x10, x11, x12, x13, x14, x15, x16, x17, x18, x19, x20, x21, x22, x23] := by match xs, hmd.len with | [x0, x1, x2, x3, x4, x5, x6, x7, x8, x9, x10, x11, x12, x13, x14, x15, x16, x17, x18, x19, x20, x21, x22, x23], _ => exact ⟨_, _, _, _, _, _, _, _, _, _, _, _, _, _, _, _, _, _, _, _, _, _, _, _, rfl⟩
    simp only [putAll]
    have hz := hw.all (by decide) (by decide)
    have hin : ri + 1 ≤ n1 := HIJ.out.1.1
    have hjm : rj + 1 ≤ m1 := HIJ.out.1.2
    have hbr : Below w6.heap.size w6 wr := H67.out.trans (hw.bel.mono (by have := HL.out.2; omega))
    have v0 : wr.cell? ⟨A10, 0, none⟩ = some (.int .u32 u.ver) := cell_at hz
    have v1 : wr.cell? ⟨A10, 1, none⟩ = some (.slice aj (ri + 1) cj) := cell_at hz
    have v2 : wr.cell? ⟨A10, 2, none⟩ = some (.slice aq (rj + 1) cq) := cell_at hz
    have v3 : wr.cell? ⟨A10, 3, none⟩ = some (.int .u32 u.lock) := cell_at hz
    have hot : ∀ j u, w7.cell? ⟨A7, j, none⟩ = some u → wr.cell? ⟨A7, j, none⟩ = some u := fun j u h => by
      rw [World.cell?_of_block (hw.other A7 (by have := HL.out.1; omega))]
      exact h
    replace u0 := hot _ _ u0
    replace u1 := hot _ _ u1
    replace u2 := hot _ _ u2
    replace u3 := hot _ _ u3
    obtain ⟨t2, ht2⟩ : ∃ t, t = cutAt (ri + 1) (rj + 1) u := ⟨_, rfl⟩
    have hnum := HU6.out
    obtain ⟨-, -, -, -, -, hver, hlock⟩ := hnum
    have hv2 : TxAt wr (.agg #[.int .u32 u.ver, .slice aj (ri + 1) cj, .slice aq (rj + 1) cq, .int .u32 u.lock]) t2 := by
      have h1 := (HI2.out.below hbr).cut hin
      rw [← HP2.out] at h1
      rw [ht2]
      exact ⟨_, _, rfl, h1, (HO2.out.below hbr).cut hjm, hver, hlock⟩
    have hfc := fewer_cut HW.out (n := ri + 1) (m := rj + 1) ⟨by omega, by have := HN1.out; omega⟩ ⟨by omega, by have := HN1.out; omega⟩
    rw [← ht2] at hfc
    have hlen2 : t2.outs.length ≤ 1000 := by rw [ht2]; show (u.outs.take _).length ≤ _; rw [List.length_take]; have := HFI.out.2.1; omega
    have HV2 := Lib.hid hv2
    have HFC := Lib.hid hfc
    have HLN := Lib.hid hlen2
    have HU := Lib.hid (HU6.out.below hbr)
    have HB := Lib.hid (HB6.out.trans (hbr.mono HB6.out.size))
    clear hv2 hfc hlen2 hbr hot hz hw hmd hver hlock ht2 hin hjm HU6 HB6 HZ H67 HI2 HO2 HP2
    go_wp2_with fail
    refine (total_any _ t2 wr HV2.out HLN.out).mono ?_
    rintro en wb ⟨rfl, hb⟩
    replace u0 := below_cells hb _ _ u0
    replace u1 := below_cells hb _ _ u1
    replace u2 := below_cells hb _ _ u2
    replace u3 := below_cells hb _ _ u3
    replace v0 := below_cells hb _ _ v0
    replace v1 := below_cells hb _ _ v1
    replace v2 := below_cells hb _ _ v2
    replace v3 := below_cells hb _ _ v3
    have HB := Lib.hid (HB.out.trans (hb.mono HB.out.size))
    have HU := Lib.hid (HU.out.below hb)
    have HV2 := Lib.hid (HV2.out.below hb)
    clear hb
    obtain ⟨S2, hS2⟩ : ∃ s, s = (sumA 0 (t2.outs.map (·.val))).1 := ⟨_, rfl⟩
    have hE : (sumA 0 (t2.outs.map (·.val))).2 = 0 := HFC.out.2.1
    have hle : S2 ≤ S := by rw [hS2, HS.out]; exact HFC.out.2.2
    rw [hE, ← hS2]
    clear hE hS2
    have HUC := Lib.hid (And.intro u0 (And.intro u1 (And.intro u2 u3)))
    have HVC := Lib.hid (And.intro v0 (And.intro v1 (And.intro v2 v3)))
    go_wp2_with fail
    refine (copy_any _ u wb HU.out HFI.out.1 HFI.out.2.1 HFI.out.2.2).mono ?_
    rintro en wc ⟨vw, rfl, hown, hb⟩
    obtain ⟨⟨vi3, vo3, ps3, rfl, hp3, hi3, ho3, hap3⟩, hver, hlock⟩ := id hown
    obtain ⟨ak, ck, e1, -, hck⟩ := ownsRow_shape hi3.row
    obtain ⟨ap, cp, e2, -, -⟩ := ownsRow_shape ho3.row
    rw [maxLen_eq] at hck
    have hl3 : ps3.length = n1 := by rw [HN1.out.1, hp3, List.length_map]
    rw [hl3] at e1
    rw [← HN1.out.2] at e2
    subst e1
    subst e2
    replace u0 := below_cells hb _ _ u0
    replace u1 := below_cells hb _ _ u1
    replace u2 := below_cells hb _ _ u2
    replace u3 := below_cells hb _ _ u3
    replace v0 := below_cells hb _ _ v0
    replace v1 := below_cells hb _ _ v1
    replace v2 := below_cells hb _ _ v2
    replace v3 := below_cells hb _ _ v3
    obtain ⟨B3, hB3⟩ : ∃ b, b = wb.heap.size := ⟨_, rfl⟩
    rw [← hB3] at hi3 ho3
    have hBc : B3 ≤ wc.heap.size := by rw [hB3]; exact hb.size
    have HBC := Lib.hid (show Below B3 wb wc by rw [hB3]; exact hb)
    have HLB := Lib.hid (show Below w.heap.size w wb ∧ w.heap.size ≤ B3 from ⟨HB.out, by rw [hB3]; exact HB.out.size⟩)
    clear hown hb
    go_upto_region 9 with fail
    have hz := heap_alloc_new wc (.cells #[.int .u32 u.ver, .slice ak n1 ck, .slice ap m1 cp, .int .u32 u.lock] 26)
    have hal : Below wc.heap.size wc (wc.alloc (.cells #[.int .u32 u.ver, .slice ak n1 ck, .slice ap m1 cp, .int .u32 u.lock] 26)) := (Below.refl _ _).alloc (Nat.le_refl _) _
    obtain ⟨A13, hA13⟩ : ∃ q, q = wc.heap.size := ⟨_, rfl⟩
    rw [← hA13] at hz ⊢
    generalize wc.alloc (.cells #[.int .u32 u.ver, .slice ak n1 ck, .slice ap m1 cp, .int .u32 u.lock] 26) = wd at *
    have hb := hal
    replace u0 := below_cells hb _ _ u0
    replace u1 := below_cells hb _ _ u1
    replace u2 := below_cells hb _ _ u2
    replace u3 := below_cells hb _ _ u3
    replace v0 := below_cells hb _ _ v0
    replace v1 := below_cells hb _ _ v1
    replace v2 := below_cells hb _ _ v2
    replace v3 := below_cells hb _ _ v3
    have HI3 := Lib.hid (hi3.below hb)
    have HO3 := Lib.hid (ho3.below hb)
    have HBD := Lib.hid (HBC.out.trans (hb.mono hBc))
    have HZ := Lib.hid hz
    have HA := Lib.hid (show B3 ≤ A13 ∧ A13 = wc.heap.size from ⟨by omega, hA13⟩)
    have HAP := Lib.hid (show ∀ b, (InsHas (.slice ak n1 ck) ps3 b ∨ (Value.slice ap m1 cp).ownBlock = some b) → b < A13 from fun b h => by
      rcases h with h | h
      · have := (hi3.lt h).2; omega
      · have := (ho3.row.lt b h).2; omega)
    have HAQ := Lib.hid hap3
    have HNU := Lib.hid (And.intro hver hlock)
    have HP3 := Lib.hid (And.intro hp3 hl3)
    clear hz hal hA13 hb hi3 ho3 hBc HBC hap3 hver hlock hp3 hl3
    have z1 : wd.cell? ⟨A13, 1, none⟩ = some (.slice ak n1 ck) := cell_at HZ.out
    obtain ⟨⟨x, wv⟩, hx⟩ : ∃ p, ps3[ri]? = some p := ⟨_, List.getElem?_eq_getElem (by have := HIJ.out.1.1; have := HP3.out.2; omega)⟩
    obtain ⟨kb, rfl, -, -, d0, d1, d2, d3⟩ := HI3.out.at hx
    dsimp only at d0 d1 d2 d3
    obtain ⟨wa, wz, hwv, -, -⟩ := ownsRow_shape (HI3.out.wit ri _ hx)
    dsimp only at hwv
    obtain ⟨wl, hwl⟩ : ∃ n, n = x.wit.length := ⟨_, rfl⟩
    rw [← hwl] at hwv
    subst hwv
    have HX := Lib.hid hx
    clear hx hwl
    refine wp_region_made (RW A13 kb n (.slice (some ⟨kb, 0, none⟩) n1 ck) n1 ri x (.slice wa wl wz)) 13 (by kernel_rfl) (by kernel_rfl) (by kernel_rfl) (by kernel_rfl) (by decide) (by kernel_rfl) ?_ ?_
    · intro i o hi ho L xs lo hi' wr hmd hni hpre
      obtain ⟨x0, x1, x2, x3, x4, x5, x6, x7, x8, x9, x10, x11, x12, rfl⟩ : ∃ x0 x1 x2 x3 x4 x5 x6 x7 x8 x9 x10 x11 x12, xs = [x0, x1, x2, x3, x4, x5, x6, x7, x8, x9, x10, x11, x12] := by match xs, hmd.len with | [x0, x1, x2, x3, x4, x5, x6, x7, x8, x9, x10, x11, x12], _ => exact ⟨_, _, _, _, _, _, _, _, _, _, _, _, _, rfl⟩
      match i, ho with
      | 0, ho =>
        obtain rfl := Option.some.inj ho
        have kk := fun lx ox ax => @step_pure Try.prog (RW A13 kb n (.slice (some ⟨kb, 0, none⟩) n1 ck) n1 ri x (.slice wa wl wz)) lx [x0, x1, x2, x3, x4, x5, x6, x7, x8, x9, x10, x11, x12] ox ax wr 0 (.pointer (some ⟨A13, 1, none⟩))
        refine kk _ _ _ ?_ ?_
        · kernel_rfl
        · exact rfl
      | 1, ho =>
        obtain rfl := Option.some.inj ho
        have h_0 : x0 = .pointer (some ⟨A13, 1, none⟩) := hmd.rel 0 (hpre 0 (by kernel_rfl))
        subst h_0
        have z := below_cells hmd.bel _ _ z1
        have kk := fun lx ox ax => @step_pure Try.prog (RW A13 kb n (.slice (some ⟨kb, 0, none⟩) n1 ck) n1 ri x (.slice wa wl wz)) lx [(.pointer (some ⟨A13, 1, none⟩)), x1, x2, x3, x4, x5, x6, x7, x8, x9, x10, x11, x12] ox ax wr 1 (.slice (some ⟨kb, 0, none⟩) n1 ck)
        refine kk _ _ _ ?_ ?_
        · simp [putAll, execOp, go_sem, z]
        · exact rfl
      | 2, ho =>
        obtain rfl := Option.some.inj ho
        have kk := fun lx ox ax => @step_pure Try.prog (RW A13 kb n (.slice (some ⟨kb, 0, none⟩) n1 ck) n1 ri x (.slice wa wl wz)) lx [x0, x1, x2, x3, x4, x5, x6, x7, x8, x9, x10, x11, x12] ox ax wr 2 (.pointer (some ⟨A13, 1, none⟩))
        refine kk _ _ _ ?_ ?_
        · kernel_rfl
        · exact rfl
      | 3, ho =>
        obtain rfl := Option.some.inj ho
        have h_2 : x2 = .pointer (some ⟨A13, 1, none⟩) := hmd.rel 2 (hpre 2 (by kernel_rfl))
        subst h_2
        have z := below_cells hmd.bel _ _ z1
        have kk := fun lx ox ax => @step_pure Try.prog (RW A13 kb n (.slice (some ⟨kb, 0, none⟩) n1 ck) n1 ri x (.slice wa wl wz)) lx [x0, x1, (.pointer (some ⟨A13, 1, none⟩)), x3, x4, x5, x6, x7, x8, x9, x10, x11, x12] ox ax wr 3 (.slice (some ⟨kb, 0, none⟩) n1 ck)
        refine kk _ _ _ ?_ ?_
        · simp [putAll, execOp, go_sem, z]
        · exact rfl
      | 4, ho =>
        obtain rfl := Option.some.inj ho
        have kk := fun lx ox ax => @step_pure Try.prog (RW A13 kb n (.slice (some ⟨kb, 0, none⟩) n1 ck) n1 ri x (.slice wa wl wz)) lx [x0, x1, x2, x3, x4, x5, x6, x7, x8, x9, x10, x11, x12] ox ax wr 4 (.int .u8 n)
        refine kk _ _ _ ?_ ?_
        · kernel_rfl
        · exact rfl
      | 5, ho =>
        obtain rfl := Option.some.inj ho
        have h_4 : x4 = .int .u8 n := hmd.rel 4 (hpre 4 (by kernel_rfl))
        subst h_4
        have kk := fun lx ox ax => @step_pure Try.prog (RW A13 kb n (.slice (some ⟨kb, 0, none⟩) n1 ck) n1 ri x (.slice wa wl wz)) lx [x0, x1, x2, x3, (.int .u8 n), x5, x6, x7, x8, x9, x10, x11, x12] ox ax wr 5 (.int .i64 n)
        refine kk _ _ _ ?_ ?_
        · (refine ex_convert (.tmp 65) _ _ rfl ?_ (conv_u8 n HNW.out wr); kernel_rfl)
        · exact rfl
      | 6, ho =>
        obtain rfl := Option.some.inj ho
        have kk := fun lx ox ax => @step_pure Try.prog (RW A13 kb n (.slice (some ⟨kb, 0, none⟩) n1 ck) n1 ri x (.slice wa wl wz)) lx [x0, x1, x2, x3, x4, x5, x6, x7, x8, x9, x10, x11, x12] ox ax wr 6 (.pointer (some ⟨A13, 1, none⟩))
        refine kk _ _ _ ?_ ?_
        · kernel_rfl
        · exact rfl
      | 7, ho =>
        obtain rfl := Option.some.inj ho
        have h_6 : x6 = .pointer (some ⟨A13, 1, none⟩) := hmd.rel 6 (hpre 6 (by kernel_rfl))
        subst h_6
        have z := below_cells hmd.bel _ _ z1
        have kk := fun lx ox ax => @step_pure Try.prog (RW A13 kb n (.slice (some ⟨kb, 0, none⟩) n1 ck) n1 ri x (.slice wa wl wz)) lx [x0, x1, x2, x3, x4, x5, (.pointer (some ⟨A13, 1, none⟩)), x7, x8, x9, x10, x11, x12] ox ax wr 7 (.slice (some ⟨kb, 0, none⟩) n1 ck)
        refine kk _ _ _ ?_ ?_
        · simp [putAll, execOp, go_sem, z]
        · exact rfl
      | 8, ho =>
        obtain rfl := Option.some.inj ho
        have h_7 : x7 = .slice (some ⟨kb, 0, none⟩) n1 ck := hmd.rel 7 (hpre 7 (by kernel_rfl))
        subst h_7
        have kk := fun lx ox ax => @step_pure Try.prog (RW A13 kb n (.slice (some ⟨kb, 0, none⟩) n1 ck) n1 ri x (.slice wa wl wz)) lx [x0, x1, x2, x3, x4, x5, x6, (.slice (some ⟨kb, 0, none⟩) n1 ck), x8, x9, x10, x11, x12] ox ax wr 8 (.int .i64 n1)
        refine kk _ _ _ ?_ ?_
        · kernel_rfl
        · exact rfl
      | 9, ho =>
        obtain rfl := Option.some.inj ho
        have h_5 : x5 = .int .i64 n := hmd.rel 5 (hpre 5 (by kernel_rfl))
        subst h_5
        have h_8 : x8 = .int .i64 n1 := hmd.rel 8 (hpre 8 (by kernel_rfl))
        subst h_8
        have kk := fun lx ox ax => @step_pure Try.prog (RW A13 kb n (.slice (some ⟨kb, 0, none⟩) n1 ck) n1 ri x (.slice wa wl wz)) lx [x0, x1, x2, x3, x4, (.int .i64 n), x6, x7, (.int .i64 n1), x9, x10, x11, x12] ox ax wr 9 (.int .i64 ri)
        refine kk _ _ _ ?_ ?_
        · (refine ex_rem (.tmp 66) (.tmp 69) _ rfl ?_ ?_ (HR1.out wr) <;> kernel_rfl)
        · exact rfl
      | 10, ho =>
        obtain rfl := Option.some.inj ho
        have h_3 : x3 = .slice (some ⟨kb, 0, none⟩) n1 ck := hmd.rel 3 (hpre 3 (by kernel_rfl))
        subst h_3
        have h_9 : x9 = .int .i64 ri := hmd.rel 9 (hpre 9 (by kernel_rfl))
        subst h_9
        have kk := fun lx ox ax => @step_pure Try.prog (RW A13 kb n (.slice (some ⟨kb, 0, none⟩) n1 ck) n1 ri x (.slice wa wl wz)) lx [x0, x1, x2, (.slice (some ⟨kb, 0, none⟩) n1 ck), x4, x5, x6, x7, x8, (.int .i64 ri), x10, x11, x12] ox ax wr 10 (.pointer (some ⟨kb, ri * 4, none⟩))
        refine kk _ _ _ ?_ ?_
        · (have h := HIJ.out.1.1; have h2 : (ri : Int) < n1 := (by omega); simp [putAll, execOp, go_sem, h, h2])
        · exact rfl
      | 11, ho =>
        obtain rfl := Option.some.inj ho
        have h_10 : x10 = .pointer (some ⟨kb, ri * 4, none⟩) := hmd.rel 10 (hpre 10 (by kernel_rfl))
        subst h_10
        have y0 := below_cells hmd.bel _ _ d0
        have y1 := below_cells hmd.bel _ _ d1
        have y2 := below_cells hmd.bel _ _ d2
        have y3 := below_cells hmd.bel _ _ d3
        have kk := fun lx ox ax => @step_pure Try.prog (RW A13 kb n (.slice (some ⟨kb, 0, none⟩) n1 ck) n1 ri x (.slice wa wl wz)) lx [x0, x1, x2, x3, x4, x5, x6, x7, x8, x9, (.pointer (some ⟨kb, ri * 4, none⟩)), x11, x12] ox ax wr 11 (.agg #[.string x.id, .int .u32 x.idx, .int .u32 x.seq, .slice wa wl wz])
        refine kk _ _ _ ?_ ?_
        · simp [putAll, execOp, go_sem, y0, y1, y2, y3]
        · exact rfl
      | 12, ho =>
        obtain rfl := Option.some.inj ho
        have h_11 : x11 = .agg #[.string x.id, .int .u32 x.idx, .int .u32 x.seq, .slice wa wl wz] := hmd.rel 11 (hpre 11 (by kernel_rfl))
        subst h_11
        have kk := fun lx ox ax => @step_new Try.prog (RW A13 kb n (.slice (some ⟨kb, 0, none⟩) n1 ck) n1 ri x (.slice wa wl wz)) lx [x0, x1, x2, x3, x4, x5, x6, x7, x8, x9, x10, (.agg #[.string x.id, .int .u32 x.idx, .int .u32 x.seq, .slice wa wl wz]), x12] ox ax wr 12 (.slice (some ⟨wr.heap.size, 0, none⟩) 1 1) (.cells #[.string x.id, .int .u32 x.idx, .int .u32 x.seq, .slice wa wl wz] 43)
        refine kk _ _ _ ?_ ?_
        · kernel_rfl
        · exact ⟨_, Nat.le_refl _, by simp, rfl, heap_alloc_new wr _⟩
      | q + 13, ho => omega
    · intro xs lo hi wr hmd
      obtain ⟨x0, x1, x2, x3, x4, x5, x6, x7, x8, x9, x10, x11, x12, rfl⟩ : ∃ x0 x1 x2 x3 x4 x5 x6 x7 x8 x9 x10 x11 x12, xs = [x0, x1, x2, x3, x4, x5, x6, x7, x8, x9, x10, x11, x12] := by match xs, hmd.len with | [x0, x1, x2, x3, x4, x5, x6, x7, x8, x9, x10, x11, x12], _ => exact ⟨_, _, _, _, _, _, _, _, _, _, _, _, _, rfl⟩
      simp only [putAll]
      change wpList _ _ _ (_ :: _ :: _ :: []) _ _
      have e1 : x1 = .slice (some ⟨kb, 0, none⟩) n1 ck := hmd.rel 1 (by decide)
      subst e1
      obtain ⟨b9, -, -, e9, hcell⟩ : ∃ b, lo 12 ≤ b ∧ b < hi 12 ∧ x12 = .slice (some ⟨b, 0, none⟩) 1 1 ∧ wr.heap[b]? = some (.cells #[.string x.id, .int .u32 x.idx, .int .u32 x.seq, .slice wa wl wz] 43 (0, 0)) := hmd.rel 12 (by decide)
      subst e9
      have hAd : A13 < wd.heap.size := (Array.getElem?_eq_some_iff.1 HZ.out).1
      have hsz := hmd.bel.size
      have hnot : ¬ InsHas (.slice (some ⟨kb, 0, none⟩) n1 ck) ps3 A13 := fun h => by have := HAP.out A13 (.inl h); omega
      obtain ⟨v', w', hrun, hsl, ⟨a6, n6, c6, e6⟩, hbel, hkeep⟩ := app_more (A := A13) (HI3.out.below hmd.bel) (by have := HP3.out.2; have := HIJ.out.2.1; omega) (by have := HA.out; omega) HX.out hcell (by omega) hnot
      have hz13 : w'.heap[A13]? = some (.cells #[.int .u32 u.ver, .slice (some ⟨kb, 0, none⟩) n1 ck, .slice ap m1 cp, .int .u32 u.lock] 26 (0, 0)) := by
        rw [hkeep A13 (by omega) (fun e => hnot (.inl e)), hmd.bel.block A13 hAd]
        exact HZ.out
      have y1 : w'.cell? ⟨A13, 1, none⟩ = some (.slice (some ⟨kb, 0, none⟩) n1 ck) := cell_at hz13
      have f1 : w'.frozen? ⟨A13, 1, none⟩ = false := free_at hz13
      have hzz : (w'.setCell ⟨A13, 1, none⟩ v').heap[A13]? = some (.cells #[.int .u32 u.ver, v', .slice ap m1 cp, .int .u32 u.lock] 26 (0, 0)) := heap_setCell_at hz13
      have hbw : Below B3 wb w' := (HBD.out.trans (hmd.bel.mono (by have := HA.out; omega))).trans hbel
      have hbe : Below B3 wb (w'.setCell ⟨A13, 1, none⟩ v') := hbw.setCell (p := ⟨A13, 1, none⟩) HA.out.1 _
      obtain ⟨t3, ht3⟩ : ∃ t, t = more ri x u := ⟨_, rfl⟩
      have hmo : TxAt (w'.setCell ⟨A13, 1, none⟩ v') (.agg #[.int .u32 u.ver, v', .slice ap m1 cp, .int .u32 u.lock]) t3 := by
        have h1 := hsl (w'.setCell ⟨A13, 1, none⟩ v') (fun b hb => heap_setCell_other _ _ _ _ hb)
        rw [← HP3.out.1] at h1
        have h2 : OutsOwn B3 (w'.setCell ⟨A13, 1, none⟩ v') (.slice ap m1 cp) u.outs := HO3.out.kept fun b e => by
          have hb := HAP.out b (.inr e)
          have hne : (Value.slice (some ⟨kb, 0, none⟩) n1 ck).ownBlock ≠ some b := fun e' => HAQ.out b e (.inl e')
          rw [heap_setCell_other _ _ _ _ (by dsimp only; omega), hkeep b (by omega) hne, hmd.bel.block b (by omega)]
        rw [ht3]
        exact ⟨_, _, rfl, h1, h2.sl, HNU.out.1, HNU.out.2⟩
      have hge := fewer_more HW.out (i := ri) (x := x) (by rw [HP3.out.1, List.getElem?_map, HX.out]; rfl) HF.out.few.1
      rw [← ht3] at hge
      have hlen3 : t3.outs.length ≤ 1000 := by rw [ht3]; exact HFI.out.2.1
      have HMO := Lib.hid hmo
      have HGE := Lib.hid hge
      have HL3 := Lib.hid hlen3
      have HE := Lib.hid (show Below wb.heap.size wb (w'.setCell ⟨A13, 1, none⟩ v') by rw [← hB3]; exact hbe)
      have HZZ := Lib.hid hzz
      have HR := Lib.hid hrun
      subst e6
      clear hmd hrun hsl hbel hkeep hz13 hzz hbw hbe hmo hge hlen3 ht3 hsz hAd hnot hcell u0 u1 u2 u3 v0 v1 v2 v3 z1 d0 d1 d2 d3 HX HI3 HO3
      refine wpList_append_run ?_ (.tmp 62) (.tmp 73) 23 23 ?_ ?_ ?_ HR.out ?_
      · rfl
      · rfl
      · kernel_rfl
      · kernel_rfl
      go_upto_region 10 with fail
      generalize w'.setCell ⟨A13, 1, none⟩ (.slice a6 n6 c6) = we at *
      have z0 : we.cell? ⟨A13, 0, none⟩ = some (.int .u32 u.ver) := cell_at HZZ.out
      have z1 : we.cell? ⟨A13, 1, none⟩ = some (.slice a6 n6 c6) := cell_at HZZ.out
      have z2 : we.cell? ⟨A13, 2, none⟩ = some (.slice ap m1 cp) := cell_at HZZ.out
      have z3 : we.cell? ⟨A13, 3, none⟩ = some (.int .u32 u.lock) := cell_at HZZ.out
      have u0 := below_cells HE.out _ _ HUC.out.1
      have u1 := below_cells HE.out _ _ HUC.out.2.1
      have u2 := below_cells HE.out _ _ HUC.out.2.2.1
      have u3 := below_cells HE.out _ _ HUC.out.2.2.2
      have v0 := below_cells HE.out _ _ HVC.out.1
      have v1 := below_cells HE.out _ _ HVC.out.2.1
      have v2 := below_cells HE.out _ _ HVC.out.2.2.1
      have v3 := below_cells HE.out _ _ HVC.out.2.2.2
      have HUe := Lib.hid (HU.out.below HE.out)
      have HVe := Lib.hid (HV2.out.below HE.out)
      have HBe := Lib.hid (HLB.out.1.trans (HE.out.mono HB.out.size))
      clear HU HV2 HB HUC HVC HE HZZ HR y1 f1
      go_wp2_with fail
      refine (check_any _ t3 we HMO.out HL3.out).mono ?_
      rintro en wf ⟨rfl, hb⟩
      replace u0 := below_cells hb _ _ u0
      replace u1 := below_cells hb _ _ u1
      replace u2 := below_cells hb _ _ u2
      replace u3 := below_cells hb _ _ u3
      replace v0 := below_cells hb _ _ v0
      replace v1 := below_cells hb _ _ v1
      replace v2 := below_cells hb _ _ v2
      replace v3 := below_cells hb _ _ v3
      have HUe := Lib.hid (HUe.out.below hb)
      have HVe := Lib.hid (HVe.out.below hb)
      have HBe := Lib.hid (HBe.out.trans (hb.mono HBe.out.size))
      clear hb z0 z1 z2 z3
      go_wp2_with fail
      refine (wakes_any wf).mono ?_
      rintro en wg ⟨rfl, hb⟩
      replace u0 := below_cells hb _ _ u0
      replace u1 := below_cells hb _ _ u1
      replace u2 := below_cells hb _ _ u2
      replace u3 := below_cells hb _ _ u3
      replace v0 := below_cells hb _ _ v0
      replace v1 := below_cells hb _ _ v1
      replace v2 := below_cells hb _ _ v2
      replace v3 := below_cells hb _ _ v3
      have HUe := Lib.hid (HUe.out.below hb)
      have HVe := Lib.hid (HVe.out.below hb)
      have HBe := Lib.hid (HBe.out.trans (hb.mono HBe.out.size))
      clear hb
      have h2 : checkOf t2 = 0 := HFC.out.1
      have HC2 := Lib.hid (h2 ▸ check_any _ t2 wg HVe.out HLN.out)
      clear h2
      rcases HGE.out with hg | ⟨hg, hbs⟩
      · rw [hg]
        clear hg
        go_wp2_with fail
        refine HC2.out.mono ?_
        rintro en wh ⟨rfl, hb⟩
        have HBe := Lib.hid (HBe.out.trans (hb.mono HBe.out.size))
        clear hb
        go_wp2_with fail
        go_ret
        exact ⟨rfl, HBe.out⟩
      · rw [hg]
        have HBS := Lib.hid hbs
        clear hg hbs
        go_wp2_with fail
        refine HC2.out.mono ?_
        rintro en wh ⟨rfl, hb⟩
        replace u0 := below_cells hb _ _ u0
        replace u1 := below_cells hb _ _ u1
        replace u2 := below_cells hb _ _ u2
        replace u3 := below_cells hb _ _ u3
        have HUe := Lib.hid (HUe.out.below hb)
        have HBe := Lib.hid (HBe.out.trans (hb.mono HBe.out.size))
        clear hb
        have HB5 := Lib.hid (HBS.out ▸ base_tx _ u wh HUe.out)
        go_wp2_with fail
        refine HB5.out.mono ?_
        rintro en wi ⟨rfl, hb⟩
        have HBe := Lib.hid (HBe.out.trans (hb.mono HBe.out.size))
        clear hb
        go_wp2_with fail
        go_ret
        exact ⟨rfl, HBe.out⟩
end Go.Proofs.Ytjbpaknjiplakaa
