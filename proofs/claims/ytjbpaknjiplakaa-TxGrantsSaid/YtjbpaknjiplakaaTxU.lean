/-
  TxGrants: the walk. Conditions: the height is an int.
-/
import Derived.Test.YtjbpaknjiplakaaTxR
import Derived.Test.YtjbpaknjiplakaaTxX
namespace Go.Proofs.Ytjbpaknjiplakaa
open Go.RowKit Go.BigFrame
set_option linter.unusedVariables false
set_option linter.unusedSimpArgs false

theorem exec_convert {P : Program} {o : Oper} {a : Act} {w w' : World} {v vx : Value} (x : Operand) (f t : TypeId) (ho : o.op = .convert f t x) (hx : a.eval x = vx) (hrun : (convert f t vx).run P w = .ok v w') : (execOp a.eval o).run P w = .ok (.value v) w' := by
  simp [execOp, ho, hx, hrun, Result.andThen]
theorem conv_u32 (ht : Int) (w : World) : (convert 3 22 (.int .i64 ht)).run Try.prog w = .ok (.int .u32 (ht % 4294967296)) w := by
  have h : (convert 3 22 (.int .i64 ht)).run Try.prog w = .ok (.int .u32 (IntKind.u32.wrap ht)) w := by kernel_rfl
  rw [h, IntKind.wrap_u32]
structure Cl (L : Nat → Prop) : Prop where
  c1 : L 1 → L 0
  c2 : L 2 → L 1
  c3 : L 3 → L 2
  c4 : L 4 → L 3
  c6 : L 6 → L 5
  c8 : L 8 → L 7
  c9 : L 9 → L 4 ∧ L 6 ∧ L 8
def Need (L : Nat → Prop) (i : Nat) : Prop := match i with
  | 1 => L 0
  | 2 => L 1
  | 3 => L 2
  | 4 => L 3
  | 6 => L 5
  | 8 => L 7
  | 9 => L 4 ∧ L 6 ∧ L 8
  | _ => True
def GJ (w0 : World) (ht : Int) (va : Value) (l : List POut) (L : Nat → Prop) (x15 x16 x17 x18 x19 x20 x21 x22 x23 x24 x6 : Value) (wr : World) : Prop :=
  (L 11 ∧ (∀ j, j < 12 → L j) ∧ FinG w0 ht l x6 wr) ∨ (¬ L 11 ∧ Cl L ∧ GI w0 ht va l L x15 x16 x17 x18 x19 x20 x21 x22 x23 x24 x6 wr)
theorem Cl.add {L : Nat → Prop} (h : Cl L) (i : Nat) (hp : Need L i) : Cl (fun j => j = i ∨ L j) :=
  ⟨fun e => .inr (e.elim (fun e => by subst e; exact hp) h.c1), fun e => .inr (e.elim (fun e => by subst e; exact hp) h.c2), fun e => .inr (e.elim (fun e => by subst e; exact hp) h.c3), fun e => .inr (e.elim (fun e => by subst e; exact hp) h.c4),
    fun e => .inr (e.elim (fun e => by subst e; exact hp) h.c6), fun e => .inr (e.elim (fun e => by subst e; exact hp) h.c8),
    fun e => have h9 : L 4 ∧ L 6 ∧ L 8 := e.elim (fun e => by subst e; exact hp) h.c9; ⟨.inr h9.1, .inr h9.2.1, .inr h9.2.2⟩⟩
theorem Cl.all {L : Nat → Prop} (h : Cl L) (h9 : L 9) (h10 : L 10) : ∀ j, j < 11 → L j := by
  obtain ⟨h4, h6, h8⟩ := h.c9 h9
  have h3 := h.c4 h4
  have h2 := h.c3 h3
  have h1 := h.c2 h2
  intro j hj
  match j, hj with
  | 0, _ => exact h.c1 h1
  | 1, _ => exact h1
  | 2, _ => exact h2
  | 3, _ => exact h3
  | 4, _ => exact h4
  | 5, _ => exact h.c6 h6
  | 6, _ => exact h6
  | 7, _ => exact h.c8 h8
  | 8, _ => exact h8
  | 9, _ => exact h9
  | 10, _ => exact h10

section
variable {w0 wr : World} {ht : Int} {l : List POut} {L : Nat → Prop} {x15 x16 x17 x18 x19 x20 x21 x22 x23 x24 x6 : Value} {K : Act → World → Prop} {Q : Exit → Act → World → Prop} {o : Oper} {a : Act}
theorem GI.s1 {va : Value} (h : GI w0 ht va l L x15 x16 x17 x18 x19 x20 x21 x22 x23 x24 x6 wr) (h0 : L 0) (ho : o.op = .convert 49 9 (.tmp 15)) (hx : a.eval (.tmp 15) = x15)
    (hK : GI w0 ht va l (fun j => j = 1 ∨ L j) x15 (.string zeros32) x17 x18 x19 x20 x21 x22 x23 x24 x6 wr → K (a.put o.dst (.string zeros32)) wr) : o.wp Try.prog a wr K Q := by
  refine h.cps0 h0 fun b hb hc => op_run (exec_convert (.tmp 15) _ _ ho (hx.trans hb) hc) (hK h.t1)
theorem GI.s6 {base co : Nat} {ao : Option Addr} {w2 : World} (h : GI w0 ht (.slice ao l.length co) l L x15 x16 x17 x18 x19 x20 x21 x22 x23 x24 x6 wr) (h5 : L 5) (h9 : ¬ L 9) (hout : OutsOwn base w2 (.slice ao l.length co) l) (hb : Below w2.heap.size w2 w0) (hl : l.length ≤ 12)
    (ho : o.op = .call { callee := .builtin .append, args := #[.const (.slice none 0 0), .tmp 20], argTypes := #[24, 24] }) (hty : o.type = 24) (hx : a.eval (.tmp 20) = x20)
    (hK : ∀ v' w', GI w0 ht (.slice ao l.length co) l (fun j => j = 6 ∨ L j) x15 x16 x17 x18 x19 x20 v' x22 x23 x24 x6 w' → K (a.put o.dst v') w') : o.wp Try.prog a wr K Q := by
  have e := h.g5 h5
  refine app_cps hout (hb.trans (h.bel.mono hb.size)) hl fun v' w' hrun hown hbel => ?_
  exact op_run (exec_append (.const (.slice none 0 0)) (.tmp 20) _ _ ho rfl (hx.trans e) (by rw [hty]; exact hrun)) (hK v' w' (h.t6 h9 hown hbel))
theorem GI.s11 {va : Value} (h : GI w0 ht va l L x15 x16 x17 x18 x19 x20 x21 x22 x23 x24 x6 wr) (hL : ∀ j, j < 11 → L j) (ho : o.op = .store 26 (.tmp 6) (.tmp 24)) (hx : a.eval (.tmp 6) = x6) (hy : a.eval (.tmp 24) = x24)
    (hK : ∀ w', FinG w0 ht l x6 w' → K (a.put o.dst undef) w') : o.wp Try.prog a wr K Q := by
  refine h.cps11 hL fun p b ao co hx6 hx24 z0 z1 z2 z3 f0 f1 f2 f3 hfin => ?_
  subst hx6
  subst hx24
  have hx' : a.tmps[6]?.getD undef = .pointer (some ⟨p, 0, none⟩) := by simpa [Act.eval] using hx
  have hy' : a.tmps[24]?.getD undef = .agg #[.int .u32 2, .slice (some ⟨b, 0, none⟩) 1 1, .slice ao l.length co, .int .u32 (ht % 4294967296)] := by simpa [Act.eval] using hy
  have hr : (execOp a.eval o).run Try.prog wr = .ok .skip ((((wr.setCell ⟨p, 0, none⟩ (.int .u32 2)).setCell ⟨p, 1, none⟩ (.slice (some ⟨b, 0, none⟩) 1 1)).setCell ⟨p, 2, none⟩ (.slice ao l.length co)).setCell ⟨p, 3, none⟩ (.int .u32 (ht % 4294967296))) := by
    simp [execOp, ho, hx', hy', go_sem, z0, z1, z2, z3, f0, f1, f2, f3]
  unfold Oper.wp
  rw [hr]
  exact hK _ (hfin.out _ rfl)
end

theorem TxOwn.kept {base : Nat} {w w' : World} {v : Value} {t : PTx} (h : TxOwn base w v t) (hk : ∀ b, base ≤ b → w'.heap[b]? = w.heap[b]?) : TxOwn base w' v t := by
  obtain ⟨⟨vi, vo, ps, rfl, hp, h1, h2, h3⟩, h4, h5⟩ := h
  exact ⟨⟨vi, vo, ps, rfl, hp, h1.kept fun b hb => hk b (h1.lt hb).1, h2.kept fun b hb => hk b (h2.row.lt b hb).1, h3⟩, h4, h5⟩
/-- What holds while the Outs are being overwritten. -/
structure GL (w : World) (base B p : Nat) (c5 c6 : Array Value) (v5 v6 : Value) (t : PTx) (a : Option Addr) (n c : Nat) (l : List POut) (k : Nat) (wr : World) : Prop where
  bel : Below w.heap.size w wr
  b5 : wr.heap[B]? = some (.cells c5 26 (0, 0))
  b6 : wr.heap[p]? = some (.cells c6 26 (0, 0))
  o5 : TxOwn base wr v5 t
  o6 : TxOwn base wr v6 t
  outs : ∃ l', OutsOwn w.heap.size wr (.slice a n c) l' ∧ ∀ j, k ≤ j → l'[j]? = l[j]?
  lt : base ≤ B ∧ base ≤ p ∧ ∀ b, a = some ⟨b, 0, none⟩ → b < base
section
variable {w : World} {base B p : Nat} {c5 c6 : Array Value} {v5 v6 : Value} {t : PTx} {a : Option Addr} {n c : Nat} {l : List POut} {k : Nat} {wr : World}
theorem GL.next {w' : World} (h : GL w base B p c5 c6 v5 v6 t a n c l k wr) (hb : Below wr.heap.size wr w') : GL w base B p c5 c6 v5 v6 t a n c l k w' :=
  ⟨h.bel.trans (hb.mono h.bel.size), (hb.block _ (Array.getElem?_eq_some_iff.1 h.b5).1).trans h.b5, (hb.block _ (Array.getElem?_eq_some_iff.1 h.b6).1).trans h.b6, h.o5.below hb, h.o6.below hb, let ⟨l', h1, h2⟩ := h.outs; ⟨l', h1.below hb, h2⟩, h.lt⟩
theorem GL.at_ (h : GL w base B p c5 c6 v5 v6 t a n c l k wr) {x : POut} (hx : l[k]? = some x) : ∃ b, a = some ⟨b, 0, none⟩ ∧ wr.cell? ⟨b, k * 2 + 1, none⟩ = some (.string x.script) ∧ wr.frozen? ⟨b, k * 2 + 1, none⟩ = false := by
  obtain ⟨l', ho, hl⟩ := h.outs
  obtain ⟨b, rfl, -, -, -, e1⟩ := ho.at ((hl k (Nat.le_refl _)).trans hx)
  exact ⟨b, rfl, e1, ownsRow_free ho.row _⟩
theorem GL.step {b : Nat} (h : GL w base B p c5 c6 v5 v6 t (some ⟨b, 0, none⟩) n c l k wr) {x : POut} (hx : l[k]? = some x) (s : ByteArray) (hs : s.size ≤ maxLen) :
    GL w base B p c5 c6 v5 v6 t (some ⟨b, 0, none⟩) n c l (k + 1) (wr.setCell ⟨b, k * 2 + 1, none⟩ (.string s)) := by
  obtain ⟨l', ho, hl⟩ := h.outs
  have hx' : l'[k]? = some x := (hl k (Nat.le_refl _)).trans hx
  have hb := h.lt.2.2 b rfl
  have h1 := h.lt.1
  have h2 := h.lt.2.1
  have hlo := (ho.row.lt b rfl).1
  have hk : ∀ q, q ≠ b → (wr.setCell ⟨b, k * 2 + 1, none⟩ (.string s)).heap[q]? = wr.heap[q]? := fun q hq => Below.heap_setCell _ _ _ _ hq
  exact ⟨h.bel.setCell (by dsimp only; omega) _, (hk B (by omega)).trans h.b5, (hk p (by omega)).trans h.b6, h.o5.kept fun q hq => hk q (by omega), h.o6.kept fun q hq => hk q (by omega),
    ⟨l'.set k { x with script := s }, ho.set (x' := { x with script := s }) hx' 1 (.string s) (by omega) rfl ⟨(ho.ok x (List.mem_of_getElem? hx')).1, hs⟩, fun j hj => by rw [List.getElem?_set_ne (by omega)]; exact hl j (by omega)⟩, h.lt⟩
end

set_option maxRecDepth 100000 in
set_option maxHeartbeats 1500000 in
theorem txGrants_walk (ht : Int) (v : Value) (l : List POut) (w : World) (hw : (Lit.int .i64 ht).wf = true) (hv : SlAt rpOut w v l) : Calls Try.prog 5 #[.int .i64 ht, v] w (BIs true w) := by
  obtain ⟨a, c, rfl, -, -⟩ := hv.shape
  have htx : TxAt w (.agg #[.int .u32 0, .slice none 0 0, .slice a l.length c, .int .u32 0]) ⟨0, [], l, 0⟩ := ⟨_, _, rfl, (insOwn_nil 0 w).sl, hv, by show 0 < 4294967296; omega, by show 0 < 4294967296; omega⟩
  have HTX := Lib.hid htx
  obtain ⟨l2, hl2⟩ : ∃ l2, l2 = (cutTx 12 ⟨0, [], l, 0⟩).outs := ⟨_, rfl⟩
  have hln : l2.length ≤ 12 := by rw [hl2]; unfold cutTx; simp; omega
  have hsc : ∀ x ∈ l2, x.script.size ≤ 50 := by
    intro x hx
    rw [hl2] at hx
    unfold cutTx at hx
    simp only [List.mem_map] at hx
    obtain ⟨y, -, rfl⟩ := hx
    exact capB_le 50 y.script
  have HLN := Lib.hid hln
  have HSC := Lib.hid hsc
  have HL2 := Lib.hid hl2
  clear htx hl2 hln hsc hv hw
  go_enter Try.func5, Try.ntmps5
  go_wp2_with fail
  refine (cut12_any _ _ w HTX.out).mono ?_
  rintro e w1 ⟨v1, rfl, hown1, hb1⟩
  obtain ⟨⟨vi1, vo1, ps1, rfl, -, hi1, ho1, -⟩, -, -⟩ := id hown1
  rw [← HL2.out] at ho1
  obtain ⟨ai1, ci1, rfl, -, -⟩ := ownsRow_shape hi1.row
  obtain ⟨ao1, co1, rfl, -, -⟩ := ownsRow_shape ho1.row
  have HB1 := Lib.hid hb1
  have HOUT := Lib.hid ho1
  have hver : (cutTx 12 ⟨0, [], l, 0⟩).ver = 0 := rfl
  have hlock : (cutTx 12 ⟨0, [], l, 0⟩).lock = 0 := rfl
  clear hown1 hi1 ho1 hb1 HTX HL2
  rw [hver, hlock]
  clear hver hlock
  have hfld : ∀ w : World, (Instr.field 26 (.agg #[.int .u32 0, .slice ai1 ps1.length ci1, .slice ao1 l2.length co1, .int .u32 0]) 2).run Try.prog w = .ok (.slice ao1 l2.length co1) w := fun w => by kernel_rfl
  go_wp2_with fail
  refine (grant_any ht _ l2 w1 HOUT.out.sl (by have := HLN.out; omega)).mono ?_
  rintro e w2 ⟨v2, rfl, hown2, hb2⟩
  obtain ⟨t, hte⟩ : ∃ t, t = grantTx ht l2 := ⟨_, rfl⟩
  rw [← hte] at hown2
  obtain ⟨⟨vi2, vo2, ps2, rfl, hp2, hi2, ho2, -⟩, -, -⟩ := id hown2
  obtain ⟨ai2, ci2, rfl, -, -⟩ := ownsRow_shape hi2.row
  obtain ⟨ao2, co2, rfl, -, -⟩ := ownsRow_shape ho2.row
  obtain ⟨n2, hn2⟩ : ∃ n, n = ps2.length := ⟨_, rfl⟩
  obtain ⟨m2, hm2⟩ : ∃ n, n = t.outs.length := ⟨_, rfl⟩
  rw [← hn2, ← hm2] at hown2 ⊢
  have HOWN := Lib.hid hown2
  have HTE := Lib.hid hte
  have HB2 := Lib.hid hb2
  clear hown2 hi2 ho2 hte hb2 hp2 hn2 hm2
  go_upto_region 3 with fail
  have hz := heap_alloc_new w2 (.cells #[.int .u32 t.ver, .slice ai2 n2 ci2, .slice ao2 m2 co2, .int .u32 t.lock] 26)
  have hal : Below w2.heap.size w2 (w2.alloc (.cells #[.int .u32 t.ver, .slice ai2 n2 ci2, .slice ao2 m2 co2, .int .u32 t.lock] 26)) := (Below.refl _ _).alloc (Nat.le_refl _) _
  obtain ⟨B, hB⟩ : ∃ B, B = w2.heap.size := ⟨_, rfl⟩
  rw [← hB] at hz ⊢
  have hBl : w1.heap.size ≤ B := by rw [hB]; exact HB2.out.size
  generalize w2.alloc (.cells #[.int .u32 t.ver, .slice ai2 n2 ci2, .slice ao2 m2 co2, .int .u32 t.lock] 26) = w3 at *
  have HB13 := Lib.hid (HB2.out.trans (hal.mono HB2.out.size))
  have HOWN := Lib.hid (HOWN.out.below hal)
  have HZ5 := Lib.hid hz
  have HBL := Lib.hid (And.intro hBl (Array.getElem?_eq_some_iff.1 hz).1)
  clear hz hal hB hBl HB2
  refine wp_region_inv_at (fun a0 L a wr => ∃ x15 x16 x17 x18 x19 x20 x21 x22 x23 x24 x6, a = (((((((((((a0.put (some 15) x15).put (some 16) x16).put (some 17) x17).put (some 18) x18).put (some 19) x19).put (some 20) x20).put (some 21) x21).put (some 22) x22).put (some 23) x23).put (some 24) x24).put (some 6) x6) ∧ GJ w3 ht (.slice ao1 l2.length co1) l2 L x15 x16 x17 x18 x19 x20 x21 x22 x23 x24 x6 wr) (by kernel_rfl) (by kernel_rfl) (by kernel_rfl) ?_ ?_ ?_
  · exact ⟨undef, undef, undef, undef, undef, undef, undef, undef, undef, undef, undef, (by kernel_rfl), .inr ⟨False.elim, ⟨False.elim, False.elim, False.elim, False.elim, False.elim, False.elim, False.elim⟩, ⟨rfl, rfl, rfl, Nat.le_refl _, fun _ _ => rfl⟩, False.elim, False.elim, False.elim, False.elim, False.elim, False.elim, False.elim, False.elim, False.elim, False.elim, False.elim, False.elim, False.elim, False.elim⟩⟩
  · rintro L i o a wr ho hL hpre ⟨x15, x16, x17, x18, x19, x20, x21, x22, x23, x24, x6, rfl, hcase⟩
    have hi12 : i < 12 := by have := (List.getElem?_eq_some_iff.1 ho).1; simpa using this
    rcases hcase with ⟨-, hall, -⟩ | ⟨hn11, hcl, hgi⟩
    · exact absurd (hall i hi12) hL
    · have HGI := Lib.hid hgi
      have HN11 := Lib.hid hn11
      clear hgi hn11
      have HCL := Lib.hid hcl
      clear hcl hi12
      match i, ho with
      | 0, ho =>
        obtain rfl := Option.some.inj ho
        refine op_run (v := .slice (some ⟨wr.heap.size, 0, none⟩) 32 32) (w' := wr.alloc (.cells (Array.replicate 32 (.int .u8 0)) 5)) (by kernel_rfl) ?_
        exact ⟨(.slice (some ⟨wr.heap.size, 0, none⟩) 32 32), x16, x17, x18, x19, x20, x21, x22, x23, x24, x6, by kernel_rfl, .inr ⟨fun e => HN11.out (or_ne e (by decide)), HCL.out.add 0 trivial, HGI.out.t0⟩⟩
      | 1, ho =>
        obtain rfl := Option.some.inj ho
        have hL0 : L 0 := hpre ⟨0, .data⟩ (by simp) rfl
        have h1 := HGI.out
        have k := fun (K : Act → World → Prop) (Q : Exit → Act → World → Prop) (o : Oper) (a : Act) => GI.s1 (K := K) (Q := Q) (o := o) (a := a) h1 hL0
        refine k _ _ _ _ ?_ ?_ ?_
        · rfl
        · kernel_rfl
        intro h
        exact ⟨x15, (.string zeros32), x17, x18, x19, x20, x21, x22, x23, x24, x6, by kernel_rfl, .inr ⟨fun e => HN11.out (or_ne e (by decide)), HCL.out.add 1 hL0, h⟩⟩
      | 2, ho =>
        obtain rfl := Option.some.inj ho
        have hL0 : L 1 := hpre ⟨1, .data⟩ (by simp) rfl
        have hxx := HGI.out.g1 hL0
        subst hxx
        refine op_run (v := .agg #[.string zeros32, .int .u32 4294967295]) (w' := wr) (by kernel_rfl) ?_
        exact ⟨x15, (.string zeros32), (.agg #[.string zeros32, .int .u32 4294967295]), x18, x19, x20, x21, x22, x23, x24, x6, by kernel_rfl, .inr ⟨fun e => HN11.out (or_ne e (by decide)), HCL.out.add 2 hL0, HGI.out.t2⟩⟩
      | 3, ho =>
        obtain rfl := Option.some.inj ho
        have hL0 : L 2 := hpre ⟨2, .data⟩ (by simp) rfl
        have hxx := HGI.out.g2 hL0
        subst hxx
        refine op_run (v := .agg #[.string zeros32, .int .u32 4294967295, .int .u32 4294967295, .slice none 0 0]) (w' := wr) (by kernel_rfl) ?_
        exact ⟨x15, x16, (.agg #[.string zeros32, .int .u32 4294967295]), (.agg #[.string zeros32, .int .u32 4294967295, .int .u32 4294967295, .slice none 0 0]), x19, x20, x21, x22, x23, x24, x6, by kernel_rfl, .inr ⟨fun e => HN11.out (or_ne e (by decide)), HCL.out.add 3 hL0, HGI.out.t3⟩⟩
      | 4, ho =>
        obtain rfl := Option.some.inj ho
        have hL0 : L 3 := hpre ⟨3, .data⟩ (by simp) rfl
        have hxx := HGI.out.g3 hL0
        subst hxx
        refine op_run (v := .slice (some ⟨wr.heap.size, 0, none⟩) 1 1) (w' := wr.alloc (.cells #[.string zeros32, .int .u32 4294967295, .int .u32 4294967295, .slice none 0 0] 43)) (by kernel_rfl) ?_
        exact ⟨x15, x16, x17, (.agg #[.string zeros32, .int .u32 4294967295, .int .u32 4294967295, .slice none 0 0]), (.slice (some ⟨wr.heap.size, 0, none⟩) 1 1), x20, x21, x22, x23, x24, x6, by kernel_rfl, .inr ⟨fun e => HN11.out (or_ne e (by decide)), HCL.out.add 4 hL0, HGI.out.t4 (fun e => hL (HCL.out.c9 e).1)⟩⟩
      | 5, ho =>
        obtain rfl := Option.some.inj ho
        refine op_run (v := .slice ao1 l2.length co1) (w' := wr) (by kernel_rfl) ?_
        exact ⟨x15, x16, x17, x18, x19, (.slice ao1 l2.length co1), x21, x22, x23, x24, x6, by kernel_rfl, .inr ⟨fun e => HN11.out (or_ne e (by decide)), HCL.out.add 5 trivial, HGI.out.t5⟩⟩
      | 6, ho =>
        obtain rfl := Option.some.inj ho
        have hL0 : L 5 := hpre ⟨5, .data⟩ (by simp) rfl
        have h1 := HGI.out
        have k := fun (K : Act → World → Prop) (Q : Exit → Act → World → Prop) (o : Oper) (a : Act) => GI.s6 (K := K) (Q := Q) (o := o) (a := a) h1 hL0 (fun e => hL (HCL.out.c9 e).2.1) HOUT.out HB13.out HLN.out
        refine k _ _ _ _ ?_ ?_ ?_ ?_
        · rfl
        · rfl
        · kernel_rfl
        intro v' w' h
        exact ⟨x15, x16, x17, x18, x19, x20, v', x22, x23, x24, x6, by kernel_rfl, .inr ⟨fun e => HN11.out (or_ne e (by decide)), HCL.out.add 6 hL0, h⟩⟩
      | 7, ho =>
        obtain rfl := Option.some.inj ho
        refine op_run (v := .int .i64 ht) (w' := wr) (by kernel_rfl) ?_
        exact ⟨x15, x16, x17, x18, x19, x20, x21, (.int .i64 ht), x23, x24, x6, by kernel_rfl, .inr ⟨fun e => HN11.out (or_ne e (by decide)), HCL.out.add 7 trivial, HGI.out.t7⟩⟩
      | 8, ho =>
        obtain rfl := Option.some.inj ho
        have hL0 : L 7 := hpre ⟨7, .data⟩ (by simp) rfl
        have hxx := HGI.out.g7 hL0
        subst hxx
        have k := fun (K : Act → World → Prop) (Q : Exit → Act → World → Prop) (o : Oper) (a : Act) (h1 : o.op = .convert 3 22 (.tmp 22)) (h2 : a.eval (.tmp 22) = .int .i64 ht) => op_run (K := K) (Q := Q) (o := o) (a := a) (exec_convert (.tmp 22) 3 22 h1 h2 (conv_u32 ht wr))
        refine k _ _ _ _ ?_ ?_ ?_
        · rfl
        · kernel_rfl
        exact ⟨x15, x16, x17, x18, x19, x20, x21, (.int .i64 ht), (.int .u32 (ht % 4294967296)), x24, x6, by kernel_rfl, .inr ⟨fun e => HN11.out (or_ne e (by decide)), HCL.out.add 8 hL0, HGI.out.t8 (fun e => hL (HCL.out.c9 e).2.2)⟩⟩
      | 9, ho =>
        obtain rfl := Option.some.inj ho
        have hL0 : L 4 ∧ L 6 ∧ L 8 := ⟨hpre ⟨4, .data⟩ (by simp) rfl, hpre ⟨6, .data⟩ (by simp) rfl, hpre ⟨8, .data⟩ (by simp) rfl⟩
        have hxx := HGI.out.g8 hL0.2.2
        subst hxx
        obtain ⟨b9, -, hx19, -⟩ := HGI.out.g4 hL0.1
        subst hx19
        obtain ⟨a9, c9, hx21, -, -⟩ := ownsRow_shape (HGI.out.g6 hL0.2.1).row
        subst hx21
        refine op_run (v := .agg #[.int .u32 2, .slice (some ⟨b9, 0, none⟩) 1 1, .slice a9 l2.length c9, .int .u32 (ht % 4294967296)]) (w' := wr) (by kernel_rfl) ?_
        exact ⟨x15, x16, x17, x18, (.slice (some ⟨b9, 0, none⟩) 1 1), x20, (.slice a9 l2.length c9), x22, (.int .u32 (ht % 4294967296)), (.agg #[.int .u32 2, .slice (some ⟨b9, 0, none⟩) 1 1, .slice a9 l2.length c9, .int .u32 (ht % 4294967296)]), x6, by kernel_rfl, .inr ⟨fun e => HN11.out (or_ne e (by decide)), HCL.out.add 9 hL0, HGI.out.t9⟩⟩
      | 10, ho =>
        obtain rfl := Option.some.inj ho
        refine op_run (v := .pointer (some ⟨wr.heap.size, 0, none⟩)) (w' := wr.alloc (.cells #[.int .u32 0, .slice none 0 0, .slice none 0 0, .int .u32 0] 26)) (by kernel_rfl) ?_
        exact ⟨x15, x16, x17, x18, x19, x20, x21, x22, x23, x24, (.pointer (some ⟨wr.heap.size, 0, none⟩)), by kernel_rfl, .inr ⟨fun e => HN11.out (or_ne e (by decide)), HCL.out.add 10 trivial, HGI.out.t10⟩⟩
      | 11, ho =>
        obtain rfl := Option.some.inj ho
        have hL9 : L 9 := hpre ⟨9, .data⟩ (by simp) rfl
        have hL10 : L 10 := hpre ⟨10, .data⟩ (by simp) rfl
        have hLL : ∀ j, j < 11 → L j := HCL.out.all hL9 hL10
        have h1 := HGI.out
        have k := fun (K : Act → World → Prop) (Q : Exit → Act → World → Prop) (o : Oper) (a : Act) => GI.s11 (K := K) (Q := Q) (o := o) (a := a) h1 hLL
        refine k _ _ _ _ ?_ ?_ ?_ ?_
        · rfl
        · kernel_rfl
        · kernel_rfl
        intro w' h
        exact ⟨x15, x16, x17, x18, x19, x20, x21, x22, x23, x24, x6, by kernel_rfl, .inl ⟨.inl rfl, fun j hj => (Nat.lt_or_ge j 11).elim (fun h => .inr (hLL j h)) (fun h => .inl (by omega)), h⟩⟩
      | n + 12, ho => simp at ho
  · rintro L a' wb hall ⟨x15, x16, x17, x18, x19, x20, x21, x22, x23, x24, x6, rfl, hcase⟩
    rcases hcase with ⟨-, -, hfin⟩ | ⟨hn, -⟩
    rotate_left
    · exact absurd (hall 11 (by decide)) hn
    · obtain ⟨hbel, p, a6, b6, c6, hp, rfl, hz6, hown6⟩ := hfin
      have hz5 := (hbel.block _ HBL.out.2).trans HZ5.out
      have hb1b : Below w1.heap.size w1 wb := HB13.out.trans (hbel.mono HB13.out.size)
      rw [← HTE.out] at hown6
      have hgl : GL w w1.heap.size B p #[.int .u32 t.ver, .slice ai2 n2 ci2, .slice ao2 m2 co2, .int .u32 t.lock] #[.int .u32 2, .slice (some ⟨b6, 0, none⟩) 1 1, .slice a6 l2.length c6, .int .u32 (ht % 4294967296)] (.agg #[.int .u32 t.ver, .slice ai2 n2 ci2, .slice ao2 m2 co2, .int .u32 t.lock]) (.agg #[.int .u32 2, .slice (some ⟨b6, 0, none⟩) 1 1, .slice a6 l2.length c6, .int .u32 (ht % 4294967296)]) t ao1 l2.length co1 l2 0 wb :=
        ⟨HB1.out.trans (hb1b.mono HB1.out.size), hz5, hz6, HOWN.out.below hbel, hown6.base HB13.out.size, ⟨l2, HOUT.out.below hb1b, fun _ _ => rfl⟩, ⟨HBL.out.1, Nat.le_trans HB13.out.size hp, fun b hb => by subst hb; exact (HOUT.out.row.lt b rfl).2⟩⟩
      have HG := Lib.hid hgl
      have HBS := Lib.hid (show baseOf t = true by rw [HTE.out]; simp [baseOf, grantTx, isBase])
      clear hbel hp hz6 hown6 hz5 hb1b hgl hall HBL HZ5 HOWN HB13 HOUT HB1
      have u0 : wb.cell? ⟨B, 0, none⟩ = some (.int .u32 t.ver) := cell_at HG.out.b5
      have u1 : wb.cell? ⟨B, 1, none⟩ = some (.slice ai2 n2 ci2) := cell_at HG.out.b5
      have u2 : wb.cell? ⟨B, 2, none⟩ = some (.slice ao2 m2 co2) := cell_at HG.out.b5
      have u3 : wb.cell? ⟨B, 3, none⟩ = some (.int .u32 t.lock) := cell_at HG.out.b5
      have v0 : wb.cell? ⟨p, 0, none⟩ = some (.int .u32 2) := cell_at HG.out.b6
      have v1 : wb.cell? ⟨p, 1, none⟩ = some (.slice (some ⟨b6, 0, none⟩) 1 1) := cell_at HG.out.b6
      have v2 : wb.cell? ⟨p, 2, none⟩ = some (.slice a6 l2.length c6) := cell_at HG.out.b6
      have v3 : wb.cell? ⟨p, 3, none⟩ = some (.int .u32 (ht % 4294967296)) := cell_at HG.out.b6
      go_wp2_with fail
      refine (wakes_any wb).mono ?_
      rintro e w4 ⟨rfl, hb⟩
      replace u0 := below_cells hb _ _ u0
      replace u1 := below_cells hb _ _ u1
      replace u2 := below_cells hb _ _ u2
      replace u3 := below_cells hb _ _ u3
      replace v0 := below_cells hb _ _ v0
      replace v1 := below_cells hb _ _ v1
      replace v2 := below_cells hb _ _ v2
      replace v3 := below_cells hb _ _ v3
      have HG := Lib.hid (HG.out.next hb)
      clear hb
      go_wp2_with fail
      refine (same_any _ _ t t w4 HG.out.o5.tx HG.out.o6.tx).mono ?_
      rintro e w5 ⟨rfl, hb⟩
      replace u0 := below_cells hb _ _ u0
      replace u1 := below_cells hb _ _ u1
      replace u2 := below_cells hb _ _ u2
      replace u3 := below_cells hb _ _ u3
      replace v0 := below_cells hb _ _ v0
      replace v1 := below_cells hb _ _ v1
      replace v2 := below_cells hb _ _ v2
      replace v3 := below_cells hb _ _ v3
      have HG := Lib.hid (HG.out.next hb)
      clear hb
      rw [same_yes rfl]
      go_wp2_with fail
      refine (base_tx _ t w5 HG.out.o5.tx).mono ?_
      rintro e w6 ⟨rfl, hb⟩
      have HG := Lib.hid (HG.out.next hb)
      clear hb u0 u1 u2 u3 v0 v1 v2 v3
      rw [HBS.out]
      go_wp2_with fail
      go_loopg [40] l2.length (fun g i wr => ∃ k : Nat, g = l2.length - k ∧ k ≤ l2.length ∧ i = .int .i64 k ∧ GL w w1.heap.size B p #[.int .u32 t.ver, .slice ai2 n2 ci2, .slice ao2 m2 co2, .int .u32 t.lock] #[.int .u32 2, .slice (some ⟨b6, 0, none⟩) 1 1, .slice a6 l2.length c6, .int .u32 (ht % 4294967296)] (.agg #[.int .u32 t.ver, .slice ai2 n2 ci2, .slice ao2 m2 co2, .int .u32 t.lock]) (.agg #[.int .u32 2, .slice (some ⟨b6, 0, none⟩) 1 1, .slice a6 l2.length c6, .int .u32 (ht % 4294967296)]) t ao1 l2.length co1 l2 k wr)
      case atStart => exact ⟨0, rfl, by omega, rfl, HG.out⟩
      case round =>
        clear HG
        rename World => wq
        obtain ⟨k, hgk, hk, rfl, hg⟩ := hrel
        have HGK := Lib.hid hgk
        have HG := Lib.hid hg
        clear hgk hg
        by_cases hlt : k < l2.length
        · obtain ⟨x, hx⟩ : ∃ x, l2[k]? = some x := ⟨_, List.getElem?_eq_getElem hlt⟩
          obtain ⟨b, rfl, e1, f1⟩ := HG.out.at_ hx
          have hsz := HSC.out x (List.mem_of_getElem? hx)
          have HST := Lib.hid (HG.out.step hx (x.script ++ ⟨#[120]⟩) (by rw [maxLen_eq, ByteArray.size_append]; have : (⟨#[120]⟩ : ByteArray).size = 1 := rfl; omega))
          clear hx
          have hk12 : k < 12 := by have := HLN.out; omega
          have hlo : (0 : Int) ≤ (k : Int) := by omega
          have hhi : (k : Int) < 12 := by omega
          go_wp2_with fail
          go_roundg (l2.length - (k + 1))
          case measure => have := HGK.out; omega
          case rel => exact ⟨k + 1, rfl, by omega, by go_num, HST.out⟩
        · obtain rfl : k = l2.length := by omega
          have u0 : wq.cell? ⟨B, 0, none⟩ = some (.int .u32 t.ver) := cell_at HG.out.b5
          have u1 : wq.cell? ⟨B, 1, none⟩ = some (.slice ai2 n2 ci2) := cell_at HG.out.b5
          have u2 : wq.cell? ⟨B, 2, none⟩ = some (.slice ao2 m2 co2) := cell_at HG.out.b5
          have u3 : wq.cell? ⟨B, 3, none⟩ = some (.int .u32 t.lock) := cell_at HG.out.b5
          have v0 : wq.cell? ⟨p, 0, none⟩ = some (.int .u32 2) := cell_at HG.out.b6
          have v1 : wq.cell? ⟨p, 1, none⟩ = some (.slice (some ⟨b6, 0, none⟩) 1 1) := cell_at HG.out.b6
          have v2 : wq.cell? ⟨p, 2, none⟩ = some (.slice a6 l2.length c6) := cell_at HG.out.b6
          have v3 : wq.cell? ⟨p, 3, none⟩ = some (.int .u32 (ht % 4294967296)) := cell_at HG.out.b6
          go_wp2_with fail
          refine (same_any _ _ t t wq HG.out.o5.tx HG.out.o6.tx).mono ?_
          rintro e w7 ⟨rfl, hb⟩
          have HG := Lib.hid (HG.out.next hb)
          clear hb
          rw [same_yes rfl]
          go_wp2_with fail
          go_ret
          exact ⟨rfl, HG.out.bel⟩

set_option maxRecDepth 100000 in
theorem open_outs {H : Type} {enc : TypeId × Value → H} {w : World} {v : Value} {d : DataW H} {ps : List MemPlace} (hv : Value.okWide Try.prog w .any 0 24 v) (h : DataW.Trod enc Try.prog w 0 (fun _ => true) true 24 v d ps) :
    ∃ l : List POut, SlAt rpOut w v l := by
  obtain ⟨a, n, c, rfl⟩ := Go.WideShapes.okWide_slice Try.underlying24 hv
  obtain ⟨fuel, hf⟩ := h
  obtain ⟨l, u, e, hu⟩ := rp_of_slice (R := rpOut) Try.underlying24 (by kernel_rfl) (by decide) (fun _ _ _ => rp_of_out) hf
  have e' : Value.slice a n c = u := by simpa [Value.cells] using e
  exact ⟨l, e' ▸ hu⟩
end Go.Proofs.Ytjbpaknjiplakaa
