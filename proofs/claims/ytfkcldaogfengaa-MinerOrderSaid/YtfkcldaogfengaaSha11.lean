/-
  SHA-256: sha.Sum. Conditions: the text has no more than 2^40 bytes.
-/
import Derived.Test.YtfkcldaogfengaaSha10
import Derived.Test.YtfkcldaogfengaaShaB
import Derived.Test.YtfkcldaogfengaaInv
namespace Go.Proofs.Ytfkcldaogfengaa
open Go.RowKit Go.BigFrame
set_option linter.unusedVariables false
set_option linter.unusedSimpArgs false

/-- The words of the digest so far, and the keys, in rows of the call's own. -/
structure SS (w : World) (A B : Nat) (f : Nat → W32) (wr : World) : Prop where
  bel : Below w.heap.size w wr
  h : ArrAt wr A 8 f
  k : ArrAt wr B 64 kF
  lo : w.heap.size ≤ A
  far : A < B
theorem SS.next {w wr w' : World} {A B : Nat} {f : Nat → W32} (h : SS w A B f wr) (hb : Below wr.heap.size wr w') : SS w A B f w' :=
  ⟨h.bel.trans (hb.mono h.bel.size), h.h.next hb h.h.lt, h.k.next hb h.k.lt, h.lo, h.far⟩
theorem SS.start {w wr : World} (hb : Below w.heap.size w wr) (f : Nat → W32) (e1 e2 : TypeId) :
    SS w wr.heap.size (wr.heap.size + 1) f ((((wr.alloc (.cells (arrV 8 (fun _ => 0)) e1)).alloc (.cells (arrV 64 (fun _ => 0)) e2)).setRow wr.heap.size (arrV 8 f)).setRow (wr.heap.size + 1) (arrV 64 kF)) := by
  have s1 : (wr.alloc (.cells (arrV 8 (fun _ => 0)) e1)).heap.size = wr.heap.size + 1 := by simp
  have hsz := hb.size
  have a1 := (arrAt_new wr 8 (fun _ => 0) e1).alloc (.cells (arrV 64 (fun _ => 0)) e2)
  have a2 := arrAt_new (wr.alloc (.cells (arrV 8 (fun _ => 0)) e1)) 64 (fun _ => 0) e2
  rw [s1] at a2
  exact ⟨below_row (below_row ((hb.alloc hsz _).alloc (by rw [s1]; omega) _) hsz _) (by omega) _, (a1.row).rowOther _ (by omega), (a2.rowOther _ (by omega)).row, hsz, Nat.lt_succ_self _⟩

theorem isEmpty_size (s : ByteArray) : s.toList.isEmpty = decide (s.size = 0) := by
  rw [ByteArray.toList_eq]
  have : s.size = s.data.toList.length := by simp
  rw [this]
  cases s.data.toList <;> simp
/-- What holds amid 'w, x := schedule(s), h'. -/
structure RI (w : World) (A B : Nat) (f Wf : Nat → W32) (L : Nat → Prop) (x21 x22 x5 x6 : Value) (wr : World) : Prop where
  ss : SS w A B f wr
  l1 : L 1 → x21 = .agg (arrV 64 Wf)
  l2 : L 2 → x22 = .agg (arrV 8 f)
  l3 : L 3 → ∃ p, x5 = .pointer (some ⟨p, 0, none⟩) ∧ B < p ∧ ∃ g, ArrAt wr p 64 g ∧ (L 5 → g = Wf)
  l4 : L 4 → ∃ p, x6 = .pointer (some ⟨p, 0, none⟩) ∧ B < p ∧ ∃ g, ArrAt wr p 8 g ∧ (L 6 → g = f)
  ne : L 3 → L 4 → x5 ≠ x6
  o5 : L 5 → L 3
  o6 : L 6 → L 4
section
variable {w : World} {A B : Nat} {f Wf : Nat → W32} {L : Nat → Prop} {x21 x22 x5 x6 : Value} {wr : World}
theorem RI.next {w' : World} (h : RI w A B f Wf L x21 x22 x5 x6 wr) (hb : Below wr.heap.size wr w') : RI w A B f Wf L x21 x22 x5 x6 w' :=
  ⟨h.ss.next hb, h.l1, h.l2, fun hl => (h.l3 hl).imp fun p ⟨a, b, g, c, d⟩ => ⟨a, b, g, c.next hb c.lt, d⟩, fun hl => (h.l4 hl).imp fun p ⟨a, b, g, c, d⟩ => ⟨a, b, g, c.next hb c.lt, d⟩, h.ne, h.o5, h.o6⟩
theorem or_ne {i j : Nat} (h : j = i ∨ L j) (hne : j ≠ i) : L j := h.resolve_left hne
theorem RI.t0 (h : RI w A B f Wf L x21 x22 x5 x6 wr) : RI w A B f Wf (fun j => j = 0 ∨ L j) x21 x22 x5 x6 wr :=
  ⟨h.ss, fun e => h.l1 (or_ne e (by decide)), fun e => h.l2 (or_ne e (by decide)), fun e => (h.l3 (or_ne e (by decide))).imp fun p ⟨a, b, g, c, d⟩ => ⟨a, b, g, c, fun e => d (or_ne e (by decide))⟩,
    fun e => (h.l4 (or_ne e (by decide))).imp fun p ⟨a, b, g, c, d⟩ => ⟨a, b, g, c, fun e => d (or_ne e (by decide))⟩, fun e e' => h.ne (or_ne e (by decide)) (or_ne e' (by decide)), fun e => .inr (h.o5 (or_ne e (by decide))), fun e => .inr (h.o6 (or_ne e (by decide)))⟩
theorem RI.t1 (h : RI w A B f Wf L x21 x22 x5 x6 wr) : RI w A B f Wf (fun j => j = 1 ∨ L j) (.agg (arrV 64 Wf)) x22 x5 x6 wr :=
  ⟨h.ss, fun e => rfl, fun e => h.l2 (or_ne e (by decide)), fun e => (h.l3 (or_ne e (by decide))).imp fun p ⟨a, b, g, c, d⟩ => ⟨a, b, g, c, fun e => d (or_ne e (by decide))⟩,
    fun e => (h.l4 (or_ne e (by decide))).imp fun p ⟨a, b, g, c, d⟩ => ⟨a, b, g, c, fun e => d (or_ne e (by decide))⟩, fun e e' => h.ne (or_ne e (by decide)) (or_ne e' (by decide)), fun e => .inr (h.o5 (or_ne e (by decide))), fun e => .inr (h.o6 (or_ne e (by decide)))⟩
theorem RI.t2 (h : RI w A B f Wf L x21 x22 x5 x6 wr) : RI w A B f Wf (fun j => j = 2 ∨ L j) x21 (.agg (arrV 8 f)) x5 x6 wr :=
  ⟨h.ss, fun e => h.l1 (or_ne e (by decide)), fun e => rfl, fun e => (h.l3 (or_ne e (by decide))).imp fun p ⟨a, b, g, c, d⟩ => ⟨a, b, g, c, fun e => d (or_ne e (by decide))⟩,
    fun e => (h.l4 (or_ne e (by decide))).imp fun p ⟨a, b, g, c, d⟩ => ⟨a, b, g, c, fun e => d (or_ne e (by decide))⟩, fun e e' => h.ne (or_ne e (by decide)) (or_ne e' (by decide)), fun e => .inr (h.o5 (or_ne e (by decide))), fun e => .inr (h.o6 (or_ne e (by decide)))⟩
theorem RI.t3 (h : RI w A B f Wf L x21 x22 x5 x6 wr) (hn : ¬ L 3) (e0 : TypeId) : RI w A B f Wf (fun j => j = 3 ∨ L j) x21 x22 (.pointer (some ⟨wr.heap.size, 0, none⟩)) x6 (wr.alloc (.cells (Array.replicate 64 (.int .u32 0)) e0)) := by
  have hb : Below wr.heap.size wr (wr.alloc (.cells (Array.replicate 64 (.int .u32 0)) e0)) := (Below.refl _ _).alloc (Nat.le_refl _) _
  have h' := h.next hb
  exact ⟨h'.ss, fun e => h.l1 (or_ne e (by decide)), fun e => h.l2 (or_ne e (by decide)), fun _ => ⟨_, rfl, h.ss.k.lt, _, arr_rep (heap_alloc_new wr _), fun e => absurd (h.o5 (or_ne e (by decide))) hn⟩,
    fun e => (h'.l4 (or_ne e (by decide))).imp fun p ⟨a, b, g, c, d⟩ => ⟨a, b, g, c, fun e => d (or_ne e (by decide))⟩,
    fun _ e' => by
      obtain ⟨p, rfl, -, g, c, -⟩ := h.l4 (or_ne e' (by decide))
      intro hc
      injection hc with hc
      injection hc with hc
      injection hc with hc
      have := c.lt
      omega, fun _ => .inl rfl, fun e => .inr (h.o6 (or_ne e (by decide)))⟩
theorem RI.t4 (h : RI w A B f Wf L x21 x22 x5 x6 wr) (hn : ¬ L 4) (e0 : TypeId) : RI w A B f Wf (fun j => j = 4 ∨ L j) x21 x22 x5 (.pointer (some ⟨wr.heap.size, 0, none⟩)) (wr.alloc (.cells (Array.replicate 8 (.int .u32 0)) e0)) := by
  have hb : Below wr.heap.size wr (wr.alloc (.cells (Array.replicate 8 (.int .u32 0)) e0)) := (Below.refl _ _).alloc (Nat.le_refl _) _
  have h' := h.next hb
  exact ⟨h'.ss, fun e => h.l1 (or_ne e (by decide)), fun e => h.l2 (or_ne e (by decide)), fun e => (h'.l3 (or_ne e (by decide))).imp fun p ⟨a, b, g, c, d⟩ => ⟨a, b, g, c, fun e => d (or_ne e (by decide))⟩,
    fun _ => ⟨_, rfl, h.ss.k.lt, _, arr_rep (heap_alloc_new wr _), fun e => absurd (h.o6 (or_ne e (by decide))) hn⟩,
    fun e _ => by
      obtain ⟨p, rfl, -, g, c, -⟩ := h.l3 (or_ne e (by decide))
      intro hc
      injection hc with hc
      injection hc with hc
      injection hc with hc
      have := c.lt
      omega, fun e => .inr (h.o5 (or_ne e (by decide))), fun _ => .inl rfl⟩
theorem SS.row {p : Nat} (h : SS w A B f wr) (hp : B < p) (x : Array Value) : SS w A B f (wr.setRow p x) := by
  have h1 := h.lo
  have h2 := h.far
  exact ⟨below_row h.bel (by omega) _, h.h.rowOther _ (by omega), h.k.rowOther _ (by omega), h.lo, h.far⟩
theorem RI.t5 {p : Nat} (h : RI w A B f Wf L x21 x22 (.pointer (some ⟨p, 0, none⟩)) x6 wr) (hp : B < p) (h3 : L 3) {g : Nat → W32} (hg : ArrAt wr p 64 g) : RI w A B f Wf (fun j => j = 5 ∨ L j) x21 x22 (.pointer (some ⟨p, 0, none⟩)) x6 (wr.setRow p (arrV 64 Wf)) :=
  ⟨h.ss.row hp _, fun e => h.l1 (or_ne e (by decide)), fun e => h.l2 (or_ne e (by decide)), fun e => ⟨p, rfl, hp, Wf, hg.row, fun _ => rfl⟩,
    fun e => (h.l4 (or_ne e (by decide))).imp fun q ⟨a, b, g, c, d⟩ => ⟨a, b, g, c.rowOther _ (fun hpq => h.ne h3 (or_ne e (by decide)) (by rw [a, hpq])), fun e => d (or_ne e (by decide))⟩, fun e e' => h.ne h3 (or_ne e' (by decide)), fun e => .inr h3, fun e => .inr (h.o6 (or_ne e (by decide)))⟩
theorem RI.t6 {p : Nat} (h : RI w A B f Wf L x21 x22 x5 (.pointer (some ⟨p, 0, none⟩)) wr) (hp : B < p) (h4 : L 4) {g : Nat → W32} (hg : ArrAt wr p 8 g) : RI w A B f Wf (fun j => j = 6 ∨ L j) x21 x22 x5 (.pointer (some ⟨p, 0, none⟩)) (wr.setRow p (arrV 8 f)) :=
  ⟨h.ss.row hp _, fun e => h.l1 (or_ne e (by decide)), fun e => h.l2 (or_ne e (by decide)),
    fun e => (h.l3 (or_ne e (by decide))).imp fun q ⟨a, b, g, c, d⟩ => ⟨a, b, g, c.rowOther _ (fun hpq => h.ne (or_ne e (by decide)) h4 (by rw [a, hpq])), fun e => d (or_ne e (by decide))⟩,
    fun e => ⟨p, rfl, hp, f, hg.row, fun _ => rfl⟩, fun e e' => h.ne (or_ne e (by decide)) h4, fun e => .inr (h.o5 (or_ne e (by decide))), fun e => .inr h4⟩
variable {Pr : Program} {K : Act → World → Prop} {Q : Exit → Act → World → Prop} {o : Oper} {a : Act}
theorem RI.s5 (h : RI w A B f Wf L x21 x22 x5 x6 wr) (h3 : L 3) (h1 : L 1) (t : TypeId) (ho : o.op = .store t (.tmp 5) (.tmp 21)) (hx : a.eval (.tmp 5) = x5) (hy : a.eval (.tmp 21) = x21) (hi : (Pr.info? t).map (·.size) = some 64)
    (hK : ∀ w', RI w A B f Wf (fun j => j = 5 ∨ L j) x21 x22 x5 x6 w' → K (a.put o.dst undef) w') : o.wp Pr a wr K Q := by
  have e1 := h.l1 h1
  obtain ⟨p, e5, hp, g, hg, -⟩ := h.l3 h3
  refine op_store_arr (f := Wf) hg t (.tmp 5) (.tmp 21) ho (hx.trans e5) (hy.trans e1) hi (hK _ ?_)
  subst e5
  exact h.t5 hp h3 hg
theorem RI.s6 (h : RI w A B f Wf L x21 x22 x5 x6 wr) (h4 : L 4) (h2 : L 2) (t : TypeId) (ho : o.op = .store t (.tmp 6) (.tmp 22)) (hx : a.eval (.tmp 6) = x6) (hy : a.eval (.tmp 22) = x22) (hi : (Pr.info? t).map (·.size) = some 8)
    (hK : ∀ w', RI w A B f Wf (fun j => j = 6 ∨ L j) x21 x22 x5 x6 w' → K (a.put o.dst undef) w') : o.wp Pr a wr K Q := by
  have e1 := h.l2 h2
  obtain ⟨p, e6, hp, g, hg, -⟩ := h.l4 h4
  refine op_store_arr (f := f) hg t (.tmp 6) (.tmp 22) ho (hx.trans e6) (hy.trans e1) hi (hK _ ?_)
  subst e6
  exact h.t6 hp h4 hg
end

structure X2 (w : World) (A B : Nat) (f : Nat → W32) (p5 p6 : Nat) (Wf g : Nat → W32) (wr : World) : Prop where
  ss : SS w A B f wr
  a5 : ArrAt wr p5 64 Wf
  a6 : ArrAt wr p6 8 g
  b5 : B < p5
  b6 : B < p6
  ne : p5 ≠ p6
section
variable {w : World} {A B : Nat} {f Wf g : Nat → W32} {p5 p6 : Nat} {wr : World}
theorem X2.next {w' : World} (h : X2 w A B f p5 p6 Wf g wr) (hb : Below wr.heap.size wr w') : X2 w A B f p5 p6 Wf g w' :=
  ⟨h.ss.next hb, h.a5.next hb h.a5.lt, h.a6.next hb h.a6.lt, h.b5, h.b6, h.ne⟩
theorem X2.row (h : X2 w A B f p5 p6 Wf g wr) (g' : Nat → W32) : X2 w A B f p5 p6 Wf g' (wr.setRow p6 (arrV 8 g')) :=
  ⟨h.ss.row h.b6 _, h.a5.rowOther _ (Ne.symm h.ne), h.a6.row, h.b5, h.b6, h.ne⟩
theorem X2.put (h : X2 w A B f p5 p6 Wf g wr) (i : Nat) (x : W32) : X2 w A B (upd f i x) p5 p6 Wf g (wr.setCell ⟨A, i, none⟩ (.int .u32 (nv x))) := by
  have h1 := h.ss.lo
  have h2 := h.ss.far
  have h5 := h.b5
  have h6 := h.b6
  exact ⟨⟨h.ss.bel.setCell (by simpa using h1) _, h.ss.h.set x, h.ss.k.other _ _ (by simp; omega), h1, h2⟩, h.a5.other _ _ (by simp; omega), h.a6.other _ _ (by simp; omega), h5, h6, h.ne⟩
theorem X2.same {f' : Nat → W32} (h : X2 w A B f p5 p6 Wf g wr) (he : ∀ i, i < 8 → f i = f' i) : X2 w A B f' p5 p6 Wf g wr :=
  ⟨⟨h.ss.bel, h.ss.h.same he, h.ss.k, h.ss.lo, h.ss.far⟩, h.a5, h.a6, h.b5, h.b6, h.ne⟩
end
theorem fn_add2 (h x : St) : ∀ i, i < 8 → plus h.fn x.fn 8 i = (addSt h x).fn i := by
  intro i hi
  unfold plus
  rw [if_pos hi]
  match i, hi with
  | 0, _ => rfl
  | 1, _ => rfl
  | 2, _ => rfl
  | 3, _ => rfl
  | 4, _ => rfl
  | 5, _ => rfl
  | 6, _ => rfl
  | 7, _ => rfl
theorem idx8 (f : Nat → W32) (w : World) : ∀ n : Nat, n < 8 → (Instr.index 117 (.agg (arrV 8 f)) (.int .i64 (n : Int))).run Try.prog w = .ok (.int .u32 (nv (f n))) w := by
  intro n hn
  match n, hn with
  | 0, _ => (change _ = _; kernel_rfl)
  | 1, _ => (change _ = _; kernel_rfl)
  | 2, _ => (change _ = _; kernel_rfl)
  | 3, _ => (change _ = _; kernel_rfl)
  | 4, _ => (change _ = _; kernel_rfl)
  | 5, _ => (change _ = _; kernel_rfl)
  | 6, _ => (change _ = _; kernel_rfl)
  | 7, _ => (change _ = _; kernel_rfl)
theorem ext_next (S : ByteArray) (a : Nat) : (S.extract a S.size).extract 64 (S.extract a S.size).size = S.extract (a + 64) S.size := by
  apply ByteArray.ext
  simp only [ByteArray.data_extract, ByteArray.size_extract, Array.extract_extract]
  congr 1
  omega

attribute [-go_sem] loadCellsFrom
end Go.Proofs.Ytfkcldaogfengaa
