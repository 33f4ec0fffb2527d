/-
  SHA-256: sha.Sum. Conditions: the text has no more than 2^40 bytes.
-/
import Derived.Test.YtmcknjldimnaoaaSha10
import Derived.Test.YtmcknjldimnaoaaShaB
import Derived.Test.YtmcknjldimnaoaaInv
namespace Go.Proofs.Ytmcknjldimnaoaa
open Go.RowKit Go.BigFrame
set_option linter.unusedVariables false
set_option linter.unusedSimpArgs false

/-- The words of the digest so far, and the keys, in rows of the call's own. -/
structure SS (w : World) (A B : Nat) (f : Nat → W32) (wr : World) : Prop where
  bel : Below w.heap.size w wr
  h : ArrAt wr A 8 f
  k : ArrAt wr B 64 kF
  lo : w.heap.size ≤ A
  far : A < B
theorem SS.next {w wr w' : World} {A B : Nat} {f : Nat → W32} (h : SS w A B f wr) (hb : Below wr.heap.size wr w') : SS w A B f w' :=
  ⟨h.bel.trans (hb.mono h.bel.size), h.h.next hb h.h.lt, h.k.next hb h.k.lt, h.lo, h.far⟩
theorem SS.start {w wr : World} (hb : Below w.heap.size w wr) (f : Nat → W32) (e1 e2 : TypeId) :
    SS w wr.heap.size (wr.heap.size + 1) f ((((wr.alloc (.cells (arrV 8 (fun _ => 0)) e1)).alloc (.cells (arrV 64 (fun _ => 0)) e2)).setRow wr.heap.size (arrV 8 f)).setRow (wr.heap.size + 1) (arrV 64 kF)) := by
  have s1 : (wr.alloc (.cells (arrV 8 (fun _ => 0)) e1)).heap.size = wr.heap.size + 1 := by simp
  have hsz := hb.size
  have a1 := (arrAt_new wr 8 (fun _ => 0) e1).alloc (.cells (arrV 64 (fun _ => 0)) e2)
  have a2 := arrAt_new (wr.alloc (.cells (arrV 8 (fun _ => 0)) e1)) 64 (fun _ => 0) e2
  rw [s1] at a2
  exact ⟨below_row (below_row ((hb.alloc hsz _).alloc (by rw [s1]; omega) _) hsz _) (by omega) _, (a1.row).rowOther _ (by omega), (a2.rowOther _ (by omega)).row, hsz, Nat.lt_succ_self _⟩

theorem isEmpty_size (s : ByteArray) : s.toList.isEmpty = decide (s.size = 0) := by
  rw [ByteArray.toList_eq]
  have : s.size = s.data.toList.length := by simp
  rw [this]
  cases s.data.toList <;> simp
/-- What holds amid 'w, x := schedule(s), h'. -/
structure RI (w : World) (A B : Nat) (f Wf : Nat → W32) (L : Nat → Prop) (x21 x22 x5 x6 : Value) (wr : World) : Prop where
  ss : SS w A B f wr
  l1 : L 1 → x21 = .agg (arrV 64 Wf)
  l2 : L 2 → x22 = .agg (arrV 8 f)
  l3 : L 3 → ∃ p, x5 = .pointer (some ⟨p, 0, none⟩) ∧ B < p ∧ ∃ g, ArrAt wr p 64 g ∧ (L 5 → g = Wf)
  l4 : L 4 → ∃ p, x6 = .pointer (some ⟨p, 0, none⟩) ∧ B < p ∧ ∃ g, ArrAt wr p 8 g ∧ (L 6 → g = f)
  ne : L 3 → L 4 → x5 ≠ x6
  o5 : L 5 → L 3
  o6 : L 6 → L 4
section
variable {w : World} {A B : Nat} {f Wf : Nat → W32} {L : Nat → Prop} {x21 x22 x5 x6 : Value} {wr : World}
theorem RI.next {w' : World} (h : RI w A B f Wf L x21 x22 x5 x6 wr) (hb : Below wr.heap.size wr w') : RI w A B f Wf L x21 x22 x5 x6 w' :=
  ⟨h.ss.next hb, h.l1, h.l2, fun hl => (h.l3 hl).imp fun p ⟨a, b, g, c, d⟩ => ⟨a, b, g, c.next hb c.lt, d⟩, fun hl => (h.l4 hl).imp fun p ⟨a, b, g, c, d⟩ => ⟨a, b, g, c.next hb c.lt, d⟩, h.ne, h.o5, h.o6⟩
theorem or_ne {i j : Nat} (h : j = i ∨ L j) (hne : j ≠ i) : L j := h.resolve_left hne
theorem RI.t0 (h : RI w A B f Wf L x21 x22 x5 x6 wr) : RI w A B f Wf (fun j => j = 0 ∨ L j) x21 x22 x5 x6 wr :=
  ⟨h.ss, fun e => h.l1 (or_ne e (by decide)), fun e => h.l2 (or_ne e (by decide)), fun e => (h.l3 (or_ne e (by decide))).imp fun p ⟨a, b, g, c, d⟩ => ⟨a, b, g, c, fun e => d (or_ne e (by decide))⟩,
    fun e => (h.l4 (or_ne e (by decide))).imp fun p ⟨a, b, g, c, d⟩ => ⟨a, b, g, c, fun e => d (or_ne e (by decide))⟩, fun e e' => h.ne (or_ne e (by decide)) (or_ne e' (by decide)), fun e => .inr (h.o5 (or_ne e (by decide))), fun e => .inr (h.o6 (or_ne e (by decide)))⟩
theorem RI.t1 (h : RI w A B f Wf L x21 x22 x5 x6 wr) : RI w A B f Wf (fun j => j = 1 ∨ L j) (.agg (arrV 64 Wf)) x22 x5 x6 wr :=
  ⟨h.ss, fun e => rfl, fun e => h.l2 (or_ne e (by decide)), fun e => (h.l3 (or_ne e (by decide))).imp fun p ⟨a, b, g, c, d⟩ => ⟨a, b, g, c, fun e => d (or_ne e (by decide))⟩,
    fun e => (h.l4 (or_ne e (by decide))).imp fun p ⟨a, b, g, c, d⟩ => ⟨a, b, g, c, fun e => d (or_ne e (by decide))⟩, fun e e' => h.ne (or_ne e (by decide)) (or_ne e' (by decide)), fun e => .inr (h.o5 (or_ne e (by decide))), fun e => .inr (h.o6 (or_ne e (by decide)))⟩
theorem RI.t2 (h : RI w A B f Wf L x21 x22 x5 x6 wr) : RI w A B f Wf (fun j => j = 2 ∨ L j) x21 (.agg (arrV 8 f)) x5 x6 wr :=
  ⟨h.ss, fun e => h.l1 (or_ne e (by decide)), fun e => rfl, fun e => (h.l3 (or_ne e (by decide))).imp fun p ⟨a, b, g, c, d⟩ => ⟨a, b, g, c, fun e => d (or_ne e (by decide))⟩,
    fun e => (h.l4 (or_ne e (by decide))).imp fun p ⟨a, b, g, c, d⟩ => ⟨a, b, g, c, fun e => d (or_ne e (by decide))⟩, fun e e' => h.ne (or_ne e (by decide)) (or_ne e' (by decide)), fun e => .inr (h.o5 (or_ne e (by decide))), fun e => .inr (h.o6 (or_ne e (by decide)))⟩
theorem RI.t3 (h : RI w A B f Wf L x21 x22 x5 x6 wr) (hn : ¬ L 3) (e0 : TypeId) : RI w A B f Wf (fun j => j = 3 ∨ L j) x21 x22 (.pointer (some ⟨wr.heap.size, 0, none⟩)) x6 (wr.alloc (.cells (Array.replicate 64 (.int .u32 0)) e0)) := by
  have hb : Below wr.heap.size wr (wr.alloc (.cells (Array.replicate 64 (.int .u32 0)) e0)) := (Below.refl _ _).alloc (Nat.le_refl _) _
  have h' := h.next hb
  exact ⟨h'.ss, fun e => h.l1 (or_ne e (by decide)), fun e => h.l2 (or_ne e (by decide)), fun _ => ⟨_, rfl, h.ss.k.lt, _, arr_rep (heap_alloc_new wr _), fun e => absurd (h.o5 (or_ne e (by decide))) hn⟩,
    fun e => (h'.l4 (or_ne e (by decide))).imp fun p ⟨a, b, g, c, d⟩ => ⟨a, b, g, c, fun e => d (or_ne e (by decide))⟩,
    fun _ e' => by
      obtain ⟨p, rfl, -, g, c, -⟩ := h.l4 (or_ne e' (by decide))
      intro hc
      injection hc with hc
      injection hc with hc
      injection hc with hc
      have := c.lt
      omega, fun _ => .inl rfl, fun e => .inr (h.o6 (or_ne e (by decide)))⟩
theorem RI.t4 (h : RI w A B f Wf L x21 x22 x5 x6 wr) (hn : ¬ L 4) (e0 : TypeId) : RI w A B f Wf (fun j => j = 4 ∨ L j) x21 x22 x5 (.pointer (some ⟨wr.heap.size, 0, none⟩)) (wr.alloc (.cells (Array.replicate 8 (.int .u32 0)) e0)) := by
  have hb : Below wr.heap.size wr (wr.alloc (.cells (Array.replicate 8 (.int .u32 0)) e0)) := (Below.refl _ _).alloc (Nat.le_refl _) _
  have h' := h.next hb
  exact ⟨h'.ss, fun e => h.l1 (or_ne e (by decide)), fun e => h.l2 (or_ne e (by decide)), fun e => (h'.l3 (or_ne e (by decide))).imp fun p ⟨a, b, g, c, d⟩ => ⟨a, b, g, c, fun e => d (or_ne e (by decide))⟩,
    fun _ => ⟨_, rfl, h.ss.k.lt, _, arr_rep (heap_alloc_new wr _), fun e => absurd (h.o6 (or_ne e (by decide))) hn⟩,
    fun e _ => by
      obtain ⟨p, rfl, -, g, c, -⟩ := h.l3 (or_ne e (by decide))
      intro hc
      injection hc with hc
      injection hc with hc
      injection hc with hc
      have := c.lt
      omega, fun e => .inr (h.o5 (or_ne e (by decide))), fun _ => .inl rfl⟩
theorem SS.row {p : Nat} (h : SS w A B f wr) (hp : B < p) (x : Array Value) : SS w A B f (wr.setRow p x) := by
  have h1 := h.lo
  have h2 := h.far
  exact ⟨below_row h.bel (by omega) _, h.h.rowOther _ (by omega), h.k.rowOther _ (by omega), h.lo, h.far⟩
theorem RI.t5 {p : Nat} (h : RI w A B f Wf L x21 x22 (.pointer (some ⟨p, 0, none⟩)) x6 wr) (hp : B < p) (h3 : L 3) {g : Nat → W32} (hg : ArrAt wr p 64 g) : RI w A B f Wf (fun j => j = 5 ∨ L j) x21 x22 (.pointer (some ⟨p, 0, none⟩)) x6 (wr.setRow p (arrV 64 Wf)) :=
  ⟨h.ss.row hp _, fun e => h.l1 (or_ne e (by decide)), fun e => h.l2 (or_ne e (by decide)), fun e => ⟨p, rfl, hp, Wf, hg.row, fun _ => rfl⟩,
    fun e => (h.l4 (or_ne e (by decide))).imp fun q ⟨a, b, g, c, d⟩ => ⟨a, b, g, c.rowOther _ (fun hpq => h.ne h3 (or_ne e (by decide)) (by rw [a, hpq])), fun e => d (or_ne e (by decide))⟩, fun e e' => h.ne h3 (or_ne e' (by decide)), fun e => .inr h3, fun e => .inr (h.o6 (or_ne e (by decide)))⟩
theorem RI.t6 {p : Nat} (h : RI w A B f Wf L x21 x22 x5 (.pointer (some ⟨p, 0, none⟩)) wr) (hp : B < p) (h4 : L 4) {g : Nat → W32} (hg : ArrAt wr p 8 g) : RI w A B f Wf (fun j => j = 6 ∨ L j) x21 x22 x5 (.pointer (some ⟨p, 0, none⟩)) (wr.setRow p (arrV 8 f)) :=
  ⟨h.ss.row hp _, fun e => h.l1 (or_ne e (by decide)), fun e => h.l2 (or_ne e (by decide)),
    fun e => (h.l3 (or_ne e (by decide))).imp fun q ⟨a, b, g, c, d⟩ => ⟨a, b, g, c.rowOther _ (fun hpq => h.ne (or_ne e (by decide)) h4 (by rw [a, hpq])), fun e => d (or_ne e (by decide))⟩,
    fun e => ⟨p, rfl, hp, f, hg.row, fun _ => rfl⟩, fun e e' => h.ne (or_ne e (by decide)) h4, fun e => .inr (h.o5 (or_ne e (by decide))), fun e => .inr h4⟩
variable {Pr : Program} {K : Act → World → Prop} {Q : Exit → Act → World → Prop} {o : Oper} {a : Act}
theorem RI.s5 (h : RI w A B f Wf L x21 x22 x5 x6 wr) (h3 : L 3) (h1 : L 1) (t : TypeId) (ho : o.op = .store t (.tmp 5) (.tmp 21)) (hx : a.eval (.tmp 5) = x5) (hy : a.eval (.tmp 21) = x21) (hi : (Pr.info? t).map (·.size) = some 64)
    (hK : ∀ w', RI w A B f Wf (fun j => j = 5 ∨ L j) x21 x22 x5 x6 w' → K (a.put o.dst undef) w') : o.wp Pr a wr K Q := by
  have e1 := h.l1 h1
  obtain ⟨p, e5, hp, g, hg, -⟩ := h.l3 h3
  refine op_store_arr (f := Wf) hg t (.tmp 5) (.tmp 21) ho (hx.trans e5) (hy.trans e1) hi (hK _ ?_)
  subst e5
  exact h.t5 hp h3 hg
theorem RI.s6 (h : RI w A B f Wf L x21 x22 x5 x6 wr) (h4 : L 4) (h2 : L 2) (t : TypeId) (ho : o.op = .store t (.tmp 6) (.tmp 22)) (hx : a.eval (.tmp 6) = x6) (hy : a.eval (.tmp 22) = x22) (hi : (Pr.info? t).map (·.size) = some 8)
    (hK : ∀ w', RI w A B f Wf (fun j => j = 6 ∨ L j) x21 x22 x5 x6 w' → K (a.put o.dst undef) w') : o.wp Pr a wr K Q := by
  have e1 := h.l2 h2
  obtain ⟨p, e6, hp, g, hg, -⟩ := h.l4 h4
  refine op_store_arr (f := f) hg t (.tmp 6) (.tmp 22) ho (hx.trans e6) (hy.trans e1) hi (hK _ ?_)
  subst e6
  exact h.t6 hp h4 hg
end

structure X2 (w : World) (A B : Nat) (f : Nat → W32) (p5 p6 : Nat) (Wf g : Nat → W32) (wr : World) : Prop where
  ss : SS w A B f wr
  a5 : ArrAt wr p5 64 Wf
  a6 : ArrAt wr p6 8 g
  b5 : B < p5
  b6 : B < p6
  ne : p5 ≠ p6
section
variable {w : World} {A B : Nat} {f Wf g : Nat → W32} {p5 p6 : Nat} {wr : World}
theorem X2.next {w' : World} (h : X2 w A B f p5 p6 Wf g wr) (hb : Below wr.heap.size wr w') : X2 w A B f p5 p6 Wf g w' :=
  ⟨h.ss.next hb, h.a5.next hb h.a5.lt, h.a6.next hb h.a6.lt, h.b5, h.b6, h.ne⟩
theorem X2.row (h : X2 w A B f p5 p6 Wf g wr) (g' : Nat → W32) : X2 w A B f p5 p6 Wf g' (wr.setRow p6 (arrV 8 g')) :=
  ⟨h.ss.row h.b6 _, h.a5.rowOther _ (Ne.symm h.ne), h.a6.row, h.b5, h.b6, h.ne⟩
theorem X2.put (h : X2 w A B f p5 p6 Wf g wr) (i : Nat) (x : W32) : X2 w A B (upd f i x) p5 p6 Wf g (wr.setCell ⟨A, i, none⟩ (.int .u32 (nv x))) := by
  have h1 := h.ss.lo
  have h2 := h.ss.far
  have h5 := h.b5
  have h6 := h.b6
  exact ⟨⟨h.ss.bel.setCell (by simpa using h1) _, h.ss.h.set x, h.ss.k.other _ _ (by simp; omega), h1, h2⟩, h.a5.other _ _ (by simp; omega), h.a6.other _ _ (by simp; omega), h5, h6, h.ne⟩
theorem X2.same {f' : Nat → W32} (h : X2 w A B f p5 p6 Wf g wr) (he : ∀ i, i < 8 → f i = f' i) : X2 w A B f' p5 p6 Wf g wr :=
  ⟨⟨h.ss.bel, h.ss.h.same he, h.ss.k, h.ss.lo, h.ss.far⟩, h.a5, h.a6, h.b5, h.b6, h.ne⟩
end
theorem fn_add2 (h x : St) : ∀ i, i < 8 → plus h.fn x.fn 8 i = (addSt h x).fn i := by
  intro i hi
  unfold plus
  rw [if_pos hi]
  match i, hi with
  | 0, _ => rfl
  | 1, _ => rfl
  | 2, _ => rfl
  | 3, _ => rfl
  | 4, _ => rfl
  | 5, _ => rfl
  | 6, _ => rfl
  | 7, _ => rfl
theorem idx8 (f : Nat → W32) (w : World) : ∀ n : Nat, n < 8 → (Instr.index 122 (.agg (arrV 8 f)) (.int .i64 (n : Int))).run Try.prog w = .ok (.int .u32 (nv (f n))) w := by
  intro n hn
  match n, hn with
  | 0, _ => (change _ = _; kernel_rfl)
  | 1, _ => (change _ = _; kernel_rfl)
  | 2, _ => (change _ = _; kernel_rfl)
  | 3, _ => (change _ = _; kernel_rfl)
  | 4, _ => (change _ = _; kernel_rfl)
  | 5, _ => (change _ = _; kernel_rfl)
  | 6, _ => (change _ = _; kernel_rfl)
  | 7, _ => (change _ = _; kernel_rfl)
theorem ext_next (S : ByteArray) (a : Nat) : (S.extract a S.size).extract 64 (S.extract a S.size).size = S.extract (a + 64) S.size := by
  apply ByteArray.ext
  simp only [ByteArray.data_extract, ByteArray.size_extract, Array.extract_extract]
  congr 1
  omega

attribute [-go_sem] loadCellsFrom
set_option maxRecDepth 100000 in
set_option maxHeartbeats 4000000 in
theorem sum_any (s : ByteArray) (hs : s.size ≤ 1099511627776) (w : World) : Calls Try.prog 58 #[.string s] w (SumIs s w) := by
  obtain ⟨P, hP⟩ : ∃ P, P = padL s.data.toList := ⟨_, rfl⟩
  obtain ⟨m, hm⟩ : ∃ m, m = P.length / 64 := ⟨_, rfl⟩
  have hpl := padL_len s.data.toList
  have hbk := padL_blocks s.data.toList
  rw [← hP] at hpl hbk
  rw [← hm] at hbk
  have hz := zerosOf_le s.data.toList.length
  have hsl : s.data.toList.length = s.size := by simp
  have hmb : 64 * m ≤ 1099511627776 + 100 := by omega
  have hm0 : 0 < m := hbk.2
  have hplen : P.length = 64 * m := hbk.1
  have HP := Lib.hid hP
  have HM := Lib.hid hm
  have HPL := Lib.hid hplen
  clear hpl hbk hz hP hm hplen hsl
  go_enter Try.func58, Try.ntmps58
  go_upto_region 1 with fail
  refine wp_region_lit ?_
  refine wpList_plain rfl fun K hK => ?_
  go_wp2_with fail
  refine (begin_any _).mono ?_
  rintro e w1 ⟨rfl, hb1⟩
  refine hK _ _ ?_
  clear hK
  refine wpList_plain rfl fun K hK => ?_
  go_wp2_with fail
  refine (keys_any _).mono ?_
  rintro e w2 ⟨rfl, hb2⟩
  have HB2 := Lib.hid (hb1.trans (hb2.mono hb1.size))
  clear hb1 hb2
  refine hK _ _ ?_
  clear hK
  have s1 : (w2.alloc (.cells (arrV 8 (fun _ => 0)) 122)).heap.size = w2.heap.size + 1 := by simp
  refine wpList_run (w' := w2.alloc (.cells (arrV 8 (fun _ => 0)) 122)) (v := .pointer (some ⟨w2.heap.size, 0, none⟩)) rfl (by rw [rep_arr]; kernel_rfl) ?_
  refine wpList_run (w' := (w2.alloc (.cells (arrV 8 (fun _ => 0)) 122)).alloc (.cells (arrV 64 (fun _ => 0)) 126)) (v := .pointer (some ⟨w2.heap.size + 1, 0, none⟩)) rfl (by rw [← s1, rep_arr, rep_arr]; kernel_rfl) ?_
  refine wpList_store_arr (f := hSt.fn) ((arrAt_new w2 8 (fun _ => 0) 122).alloc _) rfl 122 (.tmp 3) (.tmp 12) rfl rfl rfl (by kernel_rfl) ?_
  refine wpList_store_arr (f := kF) (b := w2.heap.size + 1) (n := 64) (g := fun _ => 0) (by have := (arrAt_new (w2.alloc (.cells (arrV 8 (fun _ => 0)) 122)) 64 (fun _ => 0) 126); rw [s1] at this; exact this.rowOther _ (by omega)) rfl 126 (.tmp 4) (.tmp 13) rfl rfl rfl (by kernel_rfl) ?_
  have hss := SS.start HB2.out hSt.fn 122 126
  clear HB2
  generalize ((((w2.alloc (.cells (arrV 8 (fun _ => 0)) 122)).alloc (.cells (arrV 64 (fun _ => 0)) 126)).setRow w2.heap.size (arrV 8 hSt.fn)).setRow (w2.heap.size + 1) (arrV 64 kF)) = wz at *
  obtain ⟨A, hA⟩ : ∃ A, A = w2.heap.size := ⟨_, rfl⟩
  obtain ⟨B, hB⟩ : ∃ B, B = w2.heap.size + 1 := ⟨_, rfl⟩
  rw [← hB, ← hA] at hss ⊢
  have HSS := Lib.hid hss
  clear hss hA hB s1
  go_wp2_with fail
  refine (padded_any s hs wz).mono ?_
  rintro e w1 ⟨rfl, hb1⟩
  rw [← HP.out]
  have HSS := Lib.hid (HSS.out.next hb1)
  clear hb1
  obtain ⟨S, hS⟩ : ∃ S : ByteArray, S = ⟨P.toArray⟩ := ⟨_, rfl⟩
  have hSs : S.size = 64 * m := by rw [hS, mk_size, HPL.out]
  rw [← hS]
  have HS := Lib.hid hS
  have HSZ := Lib.hid hSs
  clear hS hSs
  go_wp2_with fail
  go_loopg [0] m (fun g v wr => ∃ k : Nat, g = m - k ∧ k ≤ m ∧ v = .string (S.extract (64 * k) S.size) ∧ SS w A B (blks P k).fn wr)
  case atStart => exact ⟨0, rfl, by omega, by simp, HSS.out⟩
  case round =>
    clear HSS
    rename World => wa
    obtain ⟨k, hgk, hk, rfl, hsw⟩ := hrel
    have HGK := Lib.hid hgk
    have HSW := Lib.hid hsw
    clear hgk hsw
    have hez : (S.extract (64 * k) S.size).size = 64 * (m - k) := by rw [ByteArray.size_extract, HSZ.out]; omega
    by_cases hlt : k < m
    · have hem : (S.extract (64 * k) S.size).toList.isEmpty = false := by rw [isEmpty_size, hez]; simp; omega
      obtain ⟨X, hX⟩ : ∃ X, X = S.extract (64 * k) S.size := ⟨_, rfl⟩
      rw [← hX] at hem hez ⊢
      have hXm : sch (msgW X) 64 = sch (msgL P (64 * k)) 64 := by
        have : msgW X = msgL P (64 * k) := by
          funext j
          rw [hX, msgW_ext, HS.out]
        rw [this]
      obtain ⟨Wf, hWf⟩ : ∃ Wf, Wf = sch (msgL P (64 * k)) 64 := ⟨_, rfl⟩
      rw [← hWf] at hXm
      have hq : ∀ w, Calls Try.prog 92 #[.string X] w fun e w' => e = .returned (.agg (arrV 64 Wf)) ∧ Below w.heap.size w w' := by
        intro w
        rw [← hXm]
        exact schedule_any X (by omega) (by omega) w
      have HQ := Lib.hid hq
      have HX := Lib.hid hX
      have HW := Lib.hid hWf
      have HEZ := Lib.hid hez
      clear hXm hX hWf hez hq
      go_wp2_with fail
      refine wp_region_inv_at (fun a0 L a wr => ∃ x20 x21 x22 x5 x6, a = (((((a0.put (some 20) x20).put (some 21) x21).put (some 22) x22).put (some 5) x5).put (some 6) x6) ∧ (L 0 → x20 = .string X) ∧ RI w A B (blks P k).fn Wf L x21 x22 x5 x6 wr) (by kernel_rfl) (by kernel_rfl) (by kernel_rfl) ?_ ?_ ?_
      · exact ⟨u20, u21, u22, u5, u6, rfl, False.elim, HSW.out.next ⟨rfl, rfl, rfl, Nat.le_refl _, fun _ _ => rfl⟩, False.elim, False.elim, False.elim, False.elim, False.elim, False.elim, False.elim⟩
      · rintro L i o a wr ho hL hpre ⟨x20, x21, x22, x5, x6, rfl, h20, hri⟩
        have HRI := Lib.hid hri
        have HH := Lib.hid h20
        clear hri h20
        match i, ho with
        | 0, ho =>
          obtain rfl := Option.some.inj ho
          go_wp2_with fail
          exact ⟨_, _, _, _, _, ⟨rfl, rfl, rfl, rfl, rfl⟩, rfl, HRI.out.t0⟩
        | 1, ho =>
          obtain rfl := Option.some.inj ho
          obtain rfl := HH.out (hpre ⟨0, .data⟩ (by simp) rfl)
          go_wp2_with fail
          refine (HQ.out wr).mono ?_
          rintro e w' ⟨rfl, hb⟩
          exact ⟨_, _, _, _, _, ⟨rfl, rfl, rfl, rfl, rfl⟩, fun _ => rfl, (HRI.out.next hb).t1⟩
        | 2, ho =>
          obtain rfl := Option.some.inj ho
          have hl := HRI.out.ss.h.load (P := Try.prog)
          go_wp2_with fail
          exact ⟨_, _, _, _, _, ⟨rfl, rfl, rfl, rfl, rfl⟩, HH.out, HRI.out.t2⟩
        | 3, ho =>
          obtain rfl := Option.some.inj ho
          go_wp2_with fail
          exact ⟨_, _, _, _, _, ⟨rfl, rfl, rfl, rfl, rfl⟩, HH.out, HRI.out.t3 hL 126⟩
        | 4, ho =>
          obtain rfl := Option.some.inj ho
          go_wp2_with fail
          exact ⟨_, _, _, _, _, ⟨rfl, rfl, rfl, rfl, rfl⟩, HH.out, HRI.out.t4 hL 122⟩
        | 5, ho =>
          obtain rfl := Option.some.inj ho
          exact HRI.out.s5 (hpre ⟨3, .data⟩ (by simp) rfl) (hpre ⟨1, .data⟩ (by simp) rfl) 126 rfl (by kernel_rfl) (by kernel_rfl) (by kernel_rfl) (fun w' h => ⟨x20, x21, x22, x5, x6, by kernel_rfl, fun e => HH.out (or_ne e (by decide)), h⟩)
        | 6, ho =>
          obtain rfl := Option.some.inj ho
          exact HRI.out.s6 (hpre ⟨4, .data⟩ (by simp) rfl) (hpre ⟨2, .data⟩ (by simp) rfl) 122 rfl (by kernel_rfl) (by kernel_rfl) (by kernel_rfl) (fun w' h => ⟨x20, x21, x22, x5, x6, by kernel_rfl, fun e => HH.out (or_ne e (by decide)), h⟩)
        | n + 7, ho => simp at ho
      · rintro L a' wb hall ⟨x20, x21, x22, x5, x6, rfl, -, hri⟩
        obtain ⟨p5, rfl, hp5, g5, hg5, e5⟩ := hri.l3 (hall 3 (by decide))
        obtain ⟨p6, rfl, hp6, g6, hg6, e6⟩ := hri.l4 (hall 4 (by decide))
        obtain rfl := e5 (hall 5 (by decide))
        obtain rfl := e6 (hall 6 (by decide))
        have hne : p5 ≠ p6 := fun e => hri.ne (hall 3 (by decide)) (hall 4 (by decide)) (by rw [e])
        have HSW := Lib.hid hri.ss
        have H5 := Lib.hid hg5
        have H6 := Lib.hid hg6
        clear hri hg5 hg6 e5 e6 hall
        have hx2 : X2 w A B (blks P k).fn p5 p6 g5 (rounds g5 (blks P k) 0).fn wb := ⟨HSW.out, H5.out, H6.out, hp5, hp6, hne⟩
        have HX2 := Lib.hid hx2
        clear HSW H5 H6 hp5 hp6 hne hx2 HQ
        go_wp2_with fail
        go_loopg [23] 64 (fun g i wr => ∃ n : Nat, g = 64 - n ∧ n ≤ 64 ∧ i = .int .i64 (n : Int) ∧ X2 w A B (blks P k).fn p5 p6 g5 (rounds g5 (blks P k) n).fn wr)
        case atStart => exact ⟨0, rfl, by omega, rfl, HX2.out⟩
        case round =>
          clear HX2
          rename World => wc
          obtain ⟨n, hgn, hn, rfl, hsw⟩ := hrel
          have HGN := Lib.hid hgn
          have HSW := Lib.hid hsw
          clear hgn hsw
          by_cases hlt : n < 64
          · have hnext : rounds g5 (blks P k) (n + 1) = rnd (rounds g5 (blks P k) n) (kF n) (g5 n) := rfl
            have HNX := Lib.hid hnext
            obtain ⟨x, hx⟩ : ∃ x, x = rounds g5 (blks P k) n := ⟨_, rfl⟩
            rw [← hx] at HNX HSW
            clear hx hnext
            obtain ⟨C, hC⟩ : ∃ C : World → Prop, C = fun w' => Below wc.heap.size wc w' := ⟨_, rfl⟩
            have hk0 : ∀ y : Kin C, (loadCellsFrom ⟨p6, 0, none⟩ 0 8 #[]).run Try.prog y.w = .ok (arrV 8 x.fn) y.w := by
              intro ⟨y, h⟩; subst hC; exact (HSW.out.next h).a6.load
            have hk1 : ∀ y : Kin C, y.w.cell? ⟨B, n, none⟩ = some (.int .u32 (nv (kF n))) := by
              intro ⟨y, h⟩; subst hC; exact (HSW.out.next h).ss.k.cell hlt
            have hk2 : ∀ y : Kin C, y.w.cell? ⟨p5, n, none⟩ = some (.int .u32 (nv (g5 n))) := by
              intro ⟨y, h⟩; subst hC; exact (HSW.out.next h).a5.cell hlt
            have hqb : ∀ y : Kin C, Calls Try.prog 93 #[.agg (arrV 8 x.fn), .int .u32 (nv (kF n)), .int .u32 (nv (g5 n))] y.w fun e w' => e = .returned (.agg (arrV 8 (rnd x (kF n) (g5 n)).fn)) ∧ C w' := by
              intro y
              refine (round_any x (kF n) (g5 n) y.w).mono ?_
              rintro e w' ⟨rfl, hb⟩
              obtain ⟨y, h⟩ := y
              subst hC
              exact ⟨by rw [St.val_arr], h.trans (hb.mono h.size)⟩
            have HQB := Lib.hid hqb
            have HC := Lib.hid hC
            clear hC hqb
            go_wp2_with fail
            refine wp_region_last_kin C 8 _ rfl rfl (by kernel_rfl) (by kernel_rfl) (by kernel_rfl) (by kernel_rfl) (by kernel_rfl) (by kernel_rfl) (by rw [HC.out]; exact ⟨rfl, rfl, rfl, Nat.le_refl _, fun _ _ => rfl⟩) ?_
            intro hne
            dsimp only [List.set, struck]
            repeat (first | (go_big_quiet_step (first | (rename_i y; go_at_call 93; exact Calls.kin (HQB.out y) (fun w' h => h)))) | (quiet_step (first | (rename_i y; go_at_call 93; exact Calls.kin (HQB.out y) (fun w' h => h)))))
            refine wpQuiet_nil ?_
            intro _ hw'
            obtain ⟨kx, hw''⟩ := hw'
            subst hw''
            obtain ⟨wx, hxc⟩ := kx
            rw [HC.out] at hxc
            have hsx := HSW.out.next hxc
            have HSX := Lib.hid hsx
            clear hsx hxc hk0 hk1 hk2
            refine op_store_arr (f := (rnd x (kF n) (g5 n)).fn) HSX.out.a6 122 (.tmp 6) (.tmp 33) rfl rfl rfl (by kernel_rfl) ?_
            have hput := HSX.out.row (rnd x (kF n) (g5 n)).fn
            rw [← HNX.out] at hput ⊢
            have HPUT := Lib.hid hput
            clear hput HSX
            generalize wx.setRow p6 (arrV 8 (rounds g5 (blks P k) (n + 1)).fn) = wy at *
            go_wp2_with fail
            go_roundg (64 - (n + 1))
            case measure => have := HGN.out; omega
            case rel => exact ⟨n + 1, rfl, by omega, by go_num, HPUT.out⟩
          · obtain rfl : n = 64 := by omega
            obtain ⟨x, hx⟩ : ∃ x, x = rounds g5 (blks P k) 64 := ⟨_, rfl⟩
            rw [← hx] at HSW
            have HXX := Lib.hid hx
            clear hx hlt hn
            go_wp2_with fail
            go_loopg [35] 8 (fun g i wr => ∃ n : Nat, g = 8 - n ∧ n ≤ 8 ∧ i = .int .i64 (n : Int) ∧ X2 w A B (plus (blks P k).fn x.fn n) p5 p6 g5 x.fn wr)
            case atStart => exact ⟨0, rfl, by omega, rfl, HSW.out.same fun i hi => by unfold plus; rw [if_neg (by omega)]⟩
            case round =>
              clear HSW HGN
              rename World => wd
              obtain ⟨n, hgn, hn, rfl, hsw⟩ := hrel
              have HGN := Lib.hid hgn
              have HSW := Lib.hid hsw
              clear hgn hsw
              by_cases hlt : n < 8
              · obtain ⟨C, hC⟩ : ∃ C : World → Prop, C = fun w' => Below wd.heap.size wd w' := ⟨_, rfl⟩
                have hk0 : ∀ y : Kin C, y.w.cell? ⟨A, n, none⟩ = some (.int .u32 (nv (plus (blks P k).fn x.fn n n))) := by
                  intro ⟨y, h⟩; subst hC; exact below_cells h _ _ (HSW.out.ss.h.cell hlt)
                have hk1 : ∀ y : Kin C, y.w.cell? ⟨p6, n, none⟩ = some (.int .u32 (nv (x.fn n))) := by
                  intro ⟨y, h⟩; subst hC; exact below_cells h _ _ (HSW.out.a6.cell hlt)
                have HC := Lib.hid hC
                clear hC
                go_wp2_with fail
                refine wp_region_last_kin C 8 _ rfl rfl (by kernel_rfl) (by kernel_rfl) (by kernel_rfl) (by kernel_rfl) (by kernel_rfl) (by kernel_rfl) (by rw [HC.out]; exact ⟨rfl, rfl, rfl, Nat.le_refl _, fun _ _ => rfl⟩) ?_
                intro hne
                dsimp only [List.set, struck]
                repeat (first | (go_big_quiet_step (fail)) | (quiet_step (fail)))
                refine wpQuiet_nil ?_
                intro _ hw'
                obtain ⟨kx, hw''⟩ := hw'
                subst hw''
                obtain ⟨wx, hxc⟩ := kx
                rw [HC.out] at hxc
                have hsx := HSW.out.next hxc
                have d16 : wx.cell? ⟨A, n, none⟩ = _ := hsx.ss.h.cell (i := n) (by omega)
                have g16 : wx.frozen? ⟨A, n, none⟩ = false := hsx.ss.h.free
                have HSX := Lib.hid hsx
                clear hsx hxc hk0 hk1
                go_wp2_with fail
                simp only [nv_add]
                go_roundg (8 - (n + 1))
                case measure => have := HGN.out; omega
                case rel =>
                  have := HSX.out.put n (plus (blks P k).fn x.fn n n + x.fn n)
                  rw [plus_step] at this
                  exact ⟨n + 1, rfl, by omega, by go_num, this⟩
              · obtain rfl : n = 8 := by omega
                have hX64 : 64 ≤ X.size := by have := HEZ.out; omega
                have hXb : X.size ≤ 1099511627776 + 100 := by have := HEZ.out; omega
                go_wp2_with fail
                go_roundg (m - (k + 1))
                case measure => have := HGK.out; omega
                case rel =>
                  refine ⟨k + 1, rfl, by omega, ?_, ?_⟩
                  · rw [HX.out, ext_next]
                    rfl
                  · have := (HSW.out.same (fn_add2 (blks P k) x)).ss
                    rw [HXX.out, HW.out] at this
                    exact this
    · obtain rfl : k = m := by omega
      have hem : (S.extract (64 * k) S.size).toList.isEmpty = true := by rw [isEmpty_size, hez]; simp
      obtain ⟨f, hf⟩ : ∃ f, f = (blks P k).fn := ⟨_, rfl⟩
      have hfin : ∀ wr, Below w.heap.size w wr → SumIs s w (.returned (.string ⟨(outL f 8).toArray⟩)) wr := by
        intro wr hb
        refine ⟨?_, hb⟩
        rw [hf, outL_st]
        unfold sumL
        rw [← HP.out, ← HM.out]
      have HFIN := Lib.hid hfin
      rw [← hf] at HSW
      clear hf hfin HPL HP HM HGK hlt hk hmb hm0 HSZ HS hez
      go_upto_region 17 with fail
      have hal : Below wa.heap.size wa (wa.alloc (.cells #[.pointer none, .slice none 0 0] 95)) := (Below.refl _ _).alloc (Nat.le_refl _) _
      have hss := HSW.out.next hal
      have hib := isb_new 95 5 wa
      have hl := hss.h.load (P := Try.prog)
      have HIB := Lib.hid hib
      have HBEL := Lib.hid hss.bel
      have HG := Lib.hid HSW.out.bel.size
      have HG2 := Lib.hid hal.size
      clear hib hss hal HSW
      obtain ⟨G, hG⟩ : ∃ G, G = wa.heap.size := ⟨_, rfl⟩
      rw [← hG] at HIB HG HG2 ⊢
      generalize wa.alloc (.cells #[.pointer none, .slice none 0 0] 95) = wb at *
      clear hG
      go_wp2_with fail
      go_loopg [48] 8 (fun g i wr => ∃ n : Nat, g = 8 - n ∧ n ≤ 8 ∧ i = .int .i64 (n : Int) ∧ Below w.heap.size w wr ∧ G ≤ wr.heap.size ∧ Lib.IsBuilder 95 5 G G (bytesOf (outL f n)) wr)
      case atStart => exact ⟨0, rfl, by omega, rfl, HBEL.out, HG2.out, HIB.out⟩
      case round =>
        clear HBEL HIB HG2 hl
        rename World => wc
        obtain ⟨n, hgn, hn, rfl, hbel, hG2, hib⟩ := hrel
        have HGN := Lib.hid hgn
        have HBEL := Lib.hid hbel
        have HG2 := Lib.hid hG2
        have HIB := Lib.hid hib
        clear hgn hbel hG2 hib
        by_cases hlt : n < 8
        · have hi0 : (0 : Int) ≤ (n : Int) := by omega
          have hi8 : (n : Int) < 8 := by omega
          have hix := idx8 f wc n hlt
          have hrg := nv_range (f n)
          obtain ⟨x, hx⟩ : ∃ x, x = f n := ⟨_, rfl⟩
          rw [← hx] at hix hrg
          have HX := Lib.hid hx
          clear hx
          have hq : ∀ w, Calls Try.prog 94 #[.int .u64 (nv x), .int .i64 4] w fun e w' => e = .returned (.string ⟨(beL x.toNat 4).toArray⟩) ∧ Below w.heap.size w w' :=
            fun w => high_any x.toNat 4 (by have := bv_lt x; omega) (by omega) w
          have HQ := Lib.hid hq
          clear hq
          go_wp2_with fail
          refine (HQ.out wc).mono ?_
          rintro e w3 ⟨rfl, hb3⟩
          have HIB3 := Lib.hid (isb_later HIB.out hb3)
          have HB3 := Lib.hid (HBEL.out.trans (hb3.mono HBEL.out.size))
          have HG3 := Lib.hid (Nat.le_trans HG2.out hb3.size)
          clear hb3 hix
          go_wp2_with fail
          refine (bwrite_any G G (outL f n) ⟨(beL x.toNat 4).toArray⟩ w3 HIB3.out (by rw [outL_len, mk_size, beL_len]; omega) HG3.out).mono ?_
          rintro e w4 ⟨rfl, hib4, hb4⟩
          have HIB4 := Lib.hid hib4
          have HB4 := Lib.hid hb4
          clear hib4 hb4
          go_wp2_with fail
          go_roundg (8 - (n + 1))
          case measure => have := HGN.out; omega
          case rel =>
            refine ⟨n + 1, rfl, by omega, by go_num, HB3.out.trans (HB4.out.mono HG.out), Nat.le_trans HG3.out HB4.out.size, ?_⟩
            show Lib.IsBuilder _ _ G G (bytesOf (outL f n ++ beL (f n).toNat 4)) w4
            rw [← HX.out]
            exact HIB4.out
        · obtain rfl : n = 8 := by omega
          go_wp2_with fail
          refine (bstring_any G G (outL f 8) wc HIB.out HG2.out).mono ?_
          rintro e w' ⟨rfl, hb⟩
          have HF := Lib.hid (HFIN.out w' (HBEL.out.trans (hb.mono HG.out)))
          clear hb
          go_wp2_with fail
          go_ret
          exact HF.out
end Go.Proofs.Ytmcknjldimnaoaa
