/-
  kedgeref26.Make, of what isn't odd. Conditions: the small record lies in memory.
-/
import Derived.Test.YtaooibocknemkaaGreatQ12RecPuts
import Derived.Test.YtaooibocknemkaaGreatRegs
namespace Go.Proofs.YtaooibocknemkaaGreat
open Go.RowKit Go.BigFrame
open Go.Lib (hid)
set_option linter.unusedVariables false
set_option linter.unusedSimpArgs false
theorem ownR_outs (r : PRec) : (ownR r).tx.outs.length ≤ r.tx.outs.length := by
  unfold ownR noRec
  split
  · exact Nat.le_refl _
  · split
    · exact Nat.zero_le _
    · split
      · exact Nat.zero_le _
      · split <;> exact Nat.zero_le _
theorem TxOwn.tell {base : Nat} {w : World} {v : Value} {t : PTx} (h : TxOwn base w v t) : ∀ w' : World, (∀ b, base ≤ b → b < w.heap.size → w'.heap[b]? = w.heap[b]?) → TxOwn base w' v t := by
  intro w' hk
  obtain ⟨⟨vi, vo, ps, rfl, hp, h1, h2, h3⟩, h4, h5⟩ := h
  exact ⟨⟨vi, vo, ps, rfl, hp, h1.kept fun b hb => hk b (h1.lt hb).1 (h1.lt hb).2, h2.kept fun b hb => hk b (h2.row.lt b hb).1 (h2.row.lt b hb).2, h3⟩, h4, h5⟩
def FitV (v : Value) (lo hi : Nat) (w : World) : Prop := ∃ (t : PTx) (ia : Option Addr) (ic : Nat) (oa : Option Addr) (oc : Nat), v = .agg #[.int .u32 t.ver, .slice ia t.ins.length ic, .slice oa t.outs.length oc, .int .u32 t.lock] ∧ t.outs.length ≤ 8 ∧ ∀ w' : World, (∀ b, lo ≤ b → b < hi → w'.heap[b]? = w.heap[b]?) → TxOwn lo w' v t
theorem FitV.mono {v : Value} {lo hi : Nat} {w w' : World} (hk : ∀ b, lo ≤ b → b < hi → w'.heap[b]? = w.heap[b]?) (h : FitV v lo hi w) : FitV v lo hi w' := by
  obtain ⟨t, ia, ic, oa, oc, h1, h2, h3⟩ := h
  exact ⟨t, ia, ic, oa, oc, h1, h2, fun w2 hw2 => h3 w2 fun b h3 h4 => (hw2 b h3 h4).trans (hk b h3 h4)⟩
theorem FitV.of {w w' : World} {v : Value} {t : PTx} (h : TxOwn w.heap.size w' v t) (hf : Fitted t) : FitV v w.heap.size w'.heap.size w' := by
  have hs := h
  obtain ⟨ta, tb, rfl, hta, htb, -, -⟩ := hs.tx
  obtain ⟨ia, ic, rfl, -, -⟩ := hta.shape
  obtain ⟨oa, oc, rfl, -, -⟩ := htb.shape
  exact ⟨t, ia, ic, oa, oc, rfl, hf.few.2, h.tell⟩
def SFact.fitv : SFact := ⟨fun v _ lo hi w => FitV v lo hi w, FitV.mono⟩
def rowM (kk : Int) (z : PSml) : Value → Value
  | .agg cs => .agg #[.int .i64 kk, .int .i64 z.num, cs.getD 0 undef, cs.getD 1 undef, cs.getD 2 undef, cs.getD 3 undef, .int .i64 0, .string ⟨#[]⟩, .int .u32 0, .int .i64 0, .int .i64 0, .int .u16 0, .int .u16 0, .int .u32 0, .int .i64 0, .int .i64 z.budget, .int .i64 z.start, .int .i64 z.fee]
  | _ => undef
def RM7 (X : Nat) (z : PSml) (txv : Value) (km : Nat) (kk : Int) : Prop → Nat → SFact
  | _, 0 => .val fun _ => .pointer (some ⟨X, 0, none⟩)
  | _, 1 => .val fun _ => .int .u8 z.kind
  | _, 2 => .val fun _ => .int .u8 km
  | _, 3 => .val fun _ => .int .i64 km
  | _, 4 => .val fun _ => .int .i64 kk
  | _, 5 => .val fun _ => .pointer (some ⟨X, 1, none⟩)
  | _, 6 => .val fun _ => .int .u8 z.num
  | _, 7 => .val fun _ => .int .i64 z.num
  | _, 8 => .val fun _ => .pointer (some ⟨X, 2, none⟩)
  | _, 9 => .val fun _ => txv
  | _, 10 => .fitv
  | _, 11 => .val fun _ => .pointer (some ⟨X, 13, none⟩)
  | _, 12 => .val fun _ => .int .u32 z.budget
  | _, 13 => .val fun _ => .int .i64 z.budget
  | _, 14 => .val fun _ => .pointer (some ⟨X, 16, none⟩)
  | _, 15 => .val fun _ => .int .u16 z.start
  | _, 16 => .val fun _ => .int .i64 z.start
  | _, 17 => .val fun _ => .pointer (some ⟨X, 14, none⟩)
  | _, 18 => .val fun _ => .int .u32 z.fee
  | _, 19 => .val fun _ => .int .i64 z.fee
  | _, 20 => .val fun d => rowM kk z (d.getD 2 undef)
  | p, 21 => .made p (.cells #[.int .i64 0, .int .i64 0, .int .u32 0, .slice none 0 0, .slice none 0 0, .int .u32 0, .int .i64 0, .string ⟨#[]⟩, .int .u32 0, .int .i64 0, .int .i64 0, .int .u16 0, .int .u16 0, .int .u32 0, .int .i64 0, .int .i64 0, .int .i64 0, .int .i64 0] 35 (0, 0))
  | _, 22 => .stored 35
  | _, _ => .any
structure W10 (X V : Nat) (box row row2 : Array Value) (w0 : World) (L : Nat → Prop) (w : World) : Prop where
  src : w.heap[X]? = some (.cells box 37 (0, 0))
  fr : Fr [V] w0 w
  ne : V ≠ X
  ex : ∃ p : Bool, (p = true ↔ L 23) ∧ w.heap[V]? = some (.cells (bif p then row2 else row) 35 (0, 0))
theorem W10.start {X V : Nat} {box row row2 : Array Value} {w : World} (h1 : w.heap[X]? = some (.cells box 37 (0, 0))) (h2 : w.heap[V]? = some (.cells row 35 (0, 0))) (h3 : V ≠ X) : W10 X V box row row2 w (fun _ => False) w :=
  ⟨h1, Fr.refl _ _, h3, false, ⟨fun e => (by cases e), False.elim⟩, h2⟩
theorem W10.kept {X V : Nat} {box row row2 : Array Value} {w0 w w' : World} {L : Nat → Prop} (h : W10 X V box row row2 w0 L w) (hb : Fr [] w w') : W10 X V box row row2 w0 L w' := by
  obtain ⟨p, h1, h2⟩ := h.ex
  exact ⟨(hb.block X (Array.getElem?_eq_some_iff.1 h.src).1 (by simp)).trans h.src, h.fr.trans' (hb.mono (by simp)), h.ne, p, h1, (hb.block V (Array.getElem?_eq_some_iff.1 h2).1 (by simp)).trans h2⟩
theorem W10.drew {X V : Nat} {box row row2 : Array Value} {w0 w : World} {L : Nat → Prop} (h : W10 X V box row row2 w0 L w) : W10 X V box row row2 w0 L w.drew := h.kept (Fr.drew _ _)
theorem W10.below {X V : Nat} {box row row2 : Array Value} {w0 w w' : World} {L : Nat → Prop} (h : W10 X V box row row2 w0 L w) (hb : Below w.heap.size w w') : W10 X V box row row2 w0 L w' := h.kept (Fr.of_below hb _)
theorem W10.add {X V : Nat} {box row row2 : Array Value} {w0 w : World} {L : Nat → Prop} (h : W10 X V box row row2 w0 L w) (i : Nat) (hi : 23 ≠ i) : W10 X V box row row2 w0 (fun j => j = i ∨ L j) w := by
  obtain ⟨p, h1, h2⟩ := h.ex
  exact ⟨h.src, h.fr, h.ne, p, ⟨fun e => .inr (h1.1 e), fun e => e.elim (fun x => absurd x hi) h1.2⟩, h2⟩
theorem W10.old {X V : Nat} {box row row2 : Array Value} {w0 w : World} {L : Nat → Prop} (h : W10 X V box row row2 w0 L w) (hn : ¬ L 23) : w.heap[V]? = some (.cells row 35 (0, 0)) := by
  obtain ⟨p, h1, h2⟩ := h.ex
  cases p with
  | true => exact absurd (h1.1 rfl) hn
  | false => exact h2
theorem W10.new {X V : Nat} {box row row2 : Array Value} {w0 w : World} (h : W10 X V box row row2 w0 (fun j => j < 24) w) : w.heap[V]? = some (.cells row2 35 (0, 0)) := by
  obtain ⟨p, h1, h2⟩ := h.ex
  obtain rfl := h1.2 (by decide)
  exact h2
theorem W10.store {X V : Nat} {box row row2 : Array Value} {w0 w : World} {L : Nat → Prop} (h : W10 X V box row row2 w0 L w) (hn : ¬ L 23) (l : List (Nat × Value)) (hl : storesA row l = row2) : W10 X V box row row2 w0 (fun j => j = 23 ∨ L j) (stores w V l) := by
  obtain ⟨s1, s2, s3⟩ := stores_spec l (h.old hn)
  exact ⟨(s2 X (fun e => h.ne e.symm)).trans h.src, h.fr.trans' (stores_fr (by simp) l w), h.ne, true, ⟨fun _ => .inl rfl, fun _ => rfl⟩, by rw [hl] at s1; exact s1⟩
abbrev boxM (z : PSml) (n1 n2 n3 n4 : Nat) (ia oa ja qa : Option Addr) (ic oc jc qc : Nat) : Array Value := #[.int .u8 z.kind, .int .u8 z.num, .int .u32 z.tx.ver, .slice ia n1 ic, .slice oa n2 oc, .int .u32 z.tx.lock, .int .u8 z.index, .int .u8 z.br, .int .u16 z.tag, .int .u16 z.delay, .int .u32 z.height, .int .u8 z.point, .int .u32 z.val, .int .u32 z.budget, .int .u32 z.fee, .int .u16 z.dead, .int .u16 z.start, .int .i64 z.raw.kind, .int .i64 z.raw.num, .int .u32 z.raw.tx.ver, .slice ja n3 jc, .slice qa n4 qc, .int .u32 z.raw.tx.lock, .int .i64 z.raw.index, .string z.raw.id, .int .u32 z.raw.idx, .int .i64 z.raw.val, .int .i64 z.raw.br, .int .u16 z.raw.tag, .int .u16 z.raw.delay, .int .u32 z.raw.height, .int .i64 z.raw.dead, .int .i64 z.raw.budget, .int .i64 z.raw.start, .int .i64 z.raw.fee, .bool false]
abbrev rowI (z : PSml) (t : PTx) (kk iv : Int) (m1 m2 : Nat) (ja' qa' : Option Addr) (jc' qc' : Nat) : Array Value := #[.int .i64 kk, .int .i64 z.num, .int .u32 t.ver, .slice ja' m1 jc', .slice qa' m2 qc', .int .u32 t.lock, .int .i64 iv, .string ⟨#[]⟩, .int .u32 0, .int .i64 0, .int .i64 0, .int .u16 0, .int .u16 0, .int .u32 0, .int .i64 0, .int .i64 z.budget, .int .i64 z.start, .int .i64 z.fee]
abbrev rowJ (z : PSml) (t : PTx) (kk iv : Int) (m1 m2 : Nat) (ja' qa' : Option Addr) (jc' qc' : Nat) (bid : ByteArray) (p3 b3 : Nat) : Array Value := #[.int .i64 kk, .int .i64 z.num, .int .u32 t.ver, .slice ja' m1 jc', .slice qa' m2 qc', .int .u32 t.lock, .int .i64 iv, .string bid, .int .u32 p3, .int .i64 z.val, .int .i64 b3, .int .u16 z.tag, .int .u16 z.delay, .int .u32 z.height, .int .i64 z.dead, .int .i64 z.budget, .int .i64 z.start, .int .i64 z.fee]
abbrev v10 (z : PSml) (X V : Nat) (bid : ByteArray) (p3 b3 : Nat) : List Value := [.pointer (some ⟨X, 11, none⟩), .int .u8 z.point, .int .i64 z.point, .string bid, .pointer (some ⟨X, 11, none⟩), .int .u8 z.point, .int .u8 p3, .int .u32 p3, .agg #[.string bid, .int .u32 p3], .pointer (some ⟨X, 12, none⟩), .int .u32 z.val, .int .i64 z.val, .pointer (some ⟨X, 7, none⟩), .int .u8 z.br, .int .u8 b3, .int .i64 b3, .pointer (some ⟨X, 8, none⟩), .agg #[.int .u16 z.tag, .int .u16 z.delay, .int .u32 z.height], .pointer (some ⟨X, 15, none⟩), .int .u16 z.dead, .int .i64 z.dead, .agg #[.string bid, .int .u32 p3, .int .i64 z.val, .int .i64 b3, .int .u16 z.tag, .int .u16 z.delay, .int .u32 z.height, .int .i64 z.dead], .pointer (some ⟨V, 7, none⟩), undef]
set_option maxRecDepth 100000 in
set_option maxHeartbeats 16000000 in
theorem rmake_even (z : PSml) (va vb vc vd : Value) (w : World) (h1 : SlAt rpIn w va z.tx.ins) (h2 : SlAt rpOut w vb z.tx.outs) (h3 : SlAt rpIn w vc z.raw.tx.ins) (h4 : SlAt rpOut w vd z.raw.tx.outs) (hk : z.Ok) (ho : z.odd = false) :
    Calls Tryz.prog 9 #[.agg #[.int .u8 z.kind, .int .u8 z.num, .int .u32 z.tx.ver, va, vb, .int .u32 z.tx.lock, .int .u8 z.index, .int .u8 z.br, .int .u16 z.tag, .int .u16 z.delay, .int .u32 z.height, .int .u8 z.point, .int .u32 z.val, .int .u32 z.budget, .int .u32 z.fee, .int .u16 z.dead, .int .u16 z.start, .int .i64 z.raw.kind, .int .i64 z.raw.num, .int .u32 z.raw.tx.ver, vc, vd, .int .u32 z.raw.tx.lock, .int .i64 z.raw.index, .string z.raw.id, .int .u32 z.raw.idx, .int .i64 z.raw.val, .int .i64 z.raw.br, .int .u16 z.raw.tag, .int .u16 z.raw.delay, .int .u32 z.raw.height, .int .i64 z.raw.dead, .int .i64 z.raw.budget, .int .i64 z.raw.start, .int .i64 z.raw.fee, .bool z.odd]] w (MakeIs w) := by
  rw [ho]
  have HT := hid (show TxAt w (.agg #[.int .u32 z.tx.ver, va, vb, .int .u32 z.tx.lock]) z.tx from ⟨va, vb, rfl, h1, h2, hk.ver, hk.lock⟩)
  have HK := hid hk
  obtain ⟨ia, ic, rfl, -, -⟩ := h1.shape
  obtain ⟨oa, oc, rfl, -, -⟩ := h2.shape
  obtain ⟨ja, jc, rfl, -, -⟩ := h3.shape
  obtain ⟨qa, qc, rfl, -, -⟩ := h4.shape
  obtain ⟨n1, hn1⟩ : ∃ n, n = z.tx.ins.length := ⟨_, rfl⟩
  obtain ⟨n2, hn2⟩ : ∃ n, n = z.tx.outs.length := ⟨_, rfl⟩
  obtain ⟨n3, hn3⟩ : ∃ n, n = z.raw.tx.ins.length := ⟨_, rfl⟩
  obtain ⟨n4, hn4⟩ : ∃ n, n = z.raw.tx.outs.length := ⟨_, rfl⟩
  rw [← hn1, ← hn2, ← hn3, ← hn4]
  rw [← hn1, ← hn2] at HT
  clear hn1 hn2 hn3 hn4 h1 h2 h3 h4 hk ho
  go_enter Tryz.func9, Tryz.ntmps9
  go_upto_region 1 with fail
  obtain ⟨X, hX⟩ : ∃ q, q = w.heap.size := ⟨_, rfl⟩
  have hnews := new2 w X hX (.cells #[.int .u8 z.kind, .int .u8 z.num, .int .u32 z.tx.ver, .slice ia n1 ic, .slice oa n2 oc, .int .u32 z.tx.lock, .int .u8 z.index, .int .u8 z.br, .int .u16 z.tag, .int .u16 z.delay, .int .u32 z.height, .int .u8 z.point, .int .u32 z.val, .int .u32 z.budget, .int .u32 z.fee, .int .u16 z.dead, .int .u16 z.start, .int .i64 z.raw.kind, .int .i64 z.raw.num, .int .u32 z.raw.tx.ver, .slice ja n3 jc, .slice qa n4 qc, .int .u32 z.raw.tx.lock, .int .i64 z.raw.index, .string z.raw.id, .int .u32 z.raw.idx, .int .i64 z.raw.val, .int .i64 z.raw.br, .int .u16 z.raw.tag, .int .u16 z.raw.delay, .int .u32 z.raw.height, .int .i64 z.raw.dead, .int .i64 z.raw.budget, .int .i64 z.raw.start, .int .i64 z.raw.fee, .bool false] 37) (.cells #[.int .i64 0, .int .i64 0, .int .u32 0, .slice none 0 0, .slice none 0 0, .int .u32 0, .int .i64 0, .string ⟨#[]⟩, .int .u32 0, .int .i64 0, .int .i64 0, .int .u16 0, .int .u16 0, .int .u32 0, .int .i64 0, .int .i64 0, .int .i64 0, .int .i64 0] 35)
  rw [← hX]
  generalize ((w.alloc (.cells #[.int .u8 z.kind, .int .u8 z.num, .int .u32 z.tx.ver, .slice ia n1 ic, .slice oa n2 oc, .int .u32 z.tx.lock, .int .u8 z.index, .int .u8 z.br, .int .u16 z.tag, .int .u16 z.delay, .int .u32 z.height, .int .u8 z.point, .int .u32 z.val, .int .u32 z.budget, .int .u32 z.fee, .int .u16 z.dead, .int .u16 z.start, .int .i64 z.raw.kind, .int .i64 z.raw.num, .int .u32 z.raw.tx.ver, .slice ja n3 jc, .slice qa n4 qc, .int .u32 z.raw.tx.lock, .int .i64 z.raw.index, .string z.raw.id, .int .u32 z.raw.idx, .int .i64 z.raw.val, .int .i64 z.raw.br, .int .u16 z.raw.tag, .int .u16 z.raw.delay, .int .u32 z.raw.height, .int .i64 z.raw.dead, .int .i64 z.raw.budget, .int .i64 z.raw.start, .int .i64 z.raw.fee, .bool false] 37)).alloc (.cells #[.int .i64 0, .int .i64 0, .int .u32 0, .slice none 0 0, .slice none 0 0, .int .u32 0, .int .i64 0, .string ⟨#[]⟩, .int .u32 0, .int .i64 0, .int .i64 0, .int .u16 0, .int .u16 0, .int .u32 0, .int .i64 0, .int .i64 0, .int .i64 0, .int .i64 0] 35)) = w0 at *
  obtain ⟨hz0, hz1, hal⟩ := hnews
  have HZ0 := hid hz0
  have HZ1 := hid hz1
  have HB := hid hal
  have HX := hid hX
  have HT := hid (HT.out.below hal)
  have x35 : w0.cell? ⟨X, 35, none⟩ = some (.bool false) := cell_at hz0
  have HW0 := hid HB.out.size
  clear hz0 hz1 hal hX
  go_upto_region 7 with fail
  clear x35
  have x0_ : w0.cell? ⟨X, 0, none⟩ = some (.int .u8 z.kind) := cell_at HZ0.out
  have x1_ : w0.cell? ⟨X, 1, none⟩ = some (.int .u8 z.num) := cell_at HZ0.out
  have x2_ : w0.cell? ⟨X, 2, none⟩ = some (.int .u32 z.tx.ver) := cell_at HZ0.out
  have x3_ : w0.cell? ⟨X, 3, none⟩ = some (.slice ia n1 ic) := cell_at HZ0.out
  have x4_ : w0.cell? ⟨X, 4, none⟩ = some (.slice oa n2 oc) := cell_at HZ0.out
  have x5_ : w0.cell? ⟨X, 5, none⟩ = some (.int .u32 z.tx.lock) := cell_at HZ0.out
  have x13_ : w0.cell? ⟨X, 13, none⟩ = some (.int .u32 z.budget) := cell_at HZ0.out
  have x16_ : w0.cell? ⟨X, 16, none⟩ = some (.int .u16 z.start) := cell_at HZ0.out
  have x14_ : w0.cell? ⟨X, 14, none⟩ = some (.int .u32 z.fee) := cell_at HZ0.out
  have hkb := HK.out.kind
  obtain ⟨km, hkm⟩ : ∃ k, k = z.kind % 5 := ⟨_, rfl⟩
  have hkm5 : km < 5 := by omega
  have ekm : (z.kind : Int).tmod 5 = (km : Int) := by rw [Int.tmod_eq_emod_of_nonneg (by omega)]; omega
  have wkm : IntKind.u8.wrap (km : Int) = (km : Int) := by rw [IntKind.wrap_u8]; omega
  obtain ⟨kk, hkk⟩ : ∃ k : Int, k = 1 + (km : Int) := ⟨_, rfl⟩
  have ekk : (1 : Int) + (km : Int) = kk := hkk.symm
  have wkk : IntKind.i64.wrap kk = kk := by rw [IntKind.wrap_i64]; omega
  have HKR := hid (show i64R kk from ⟨by omega, by omega⟩)
  refine wp_region_stored (RM7 X z (.agg #[.int .u32 z.tx.ver, .slice ia n1 ic, .slice oa n2 oc, .int .u32 z.tx.lock]) km kk) 23 22 21 (by kernel_rfl) (by kernel_rfl) (by kernel_rfl) (by kernel_rfl) (by decide) (by kernel_rfl) (by decide) (by intro j hj v d lo hi w h; match j, hj, h with | 0, hj, h => exact h | 1, hj, h => exact h | 2, hj, h => exact h | 3, hj, h => exact h | 4, hj, h => exact h | 5, hj, h => exact h | 6, hj, h => exact h | 7, hj, h => exact h | 8, hj, h => exact h | 9, hj, h => exact h | 10, hj, h => exact h | 11, hj, h => exact h | 12, hj, h => exact h | 13, hj, h => exact h | 14, hj, h => exact h | 15, hj, h => exact h | 16, hj, h => exact h | 17, hj, h => exact h | 18, hj, h => exact h | 19, hj, h => exact h | 20, hj, h => exact h | 21, hj, h => exact absurd rfl hj | 22, hj, h => exact h | q + 23, hj, h => exact h) ?_ ?_
  · intro i o hi ho L xs lo hi' wr hmd hni hpre
    obtain ⟨x0, x1, x2, x3, x4, x5, x6, x7, x8, x9, x10, x11, x12, x13, x14, x15, x16, x17, x18, x19, x20, x21, x22, rfl⟩ : ∃ x0 x1 x2 x3 x4 x5 x6 x7 x8 x9 x10 x11 x12 x13 x14 x15 x16 x17 x18 x19 x20 x21 x22, xs = [x0, x1, x2, x3, x4, x5, x6, x7, x8, x9, x10, x11, x12, x13, x14, x15, x16, x17, x18, x19, x20, x21, x22] := by match xs, hmd.len with | [x0, x1, x2, x3, x4, x5, x6, x7, x8, x9, x10, x11, x12, x13, x14, x15, x16, x17, x18, x19, x20, x21, x22], _ => exact ⟨_, _, _, _, _, _, _, _, _, _, _, _, _, _, _, _, _, _, _, _, _, _, _, rfl⟩
    match i, ho with
    | 0, ho =>
      obtain rfl := Option.some.inj ho
      have kk := fun lx ox ax => sstep_pure (P := Tryz.prog) (R := RM7 X z (.agg #[.int .u32 z.tx.ver, .slice ia n1 ic, .slice oa n2 oc, .int .u32 z.tx.lock]) km kk) (s := 22) (l := lx) (w0 := w0) (L := L) (xs := [x0, x1, x2, x3, x4, x5, x6, x7, x8, x9, x10, x11, x12, x13, x14, x15, x16, x17, x18, x19, x20, x21, x22]) (lo := lo) (hi := hi') (o := ox) (a := ax) (w := wr) (i := 0) (k := 21) (by decide) (.pointer (some ⟨X, 0, none⟩))
      refine kk _ _ _ ?_ ?_
      · kernel_rfl
      · exact rfl
    | 1, ho =>
      obtain rfl := Option.some.inj ho
      have h_0 : x0 = .pointer (some ⟨X, 0, none⟩) := hmd.rel 0 (hpre 0 (by kernel_rfl))
      subst h_0
      have t0 := below_cells hmd.bel _ _ x0_
      have kk := fun lx ox ax => sstep_pure (P := Tryz.prog) (R := RM7 X z (.agg #[.int .u32 z.tx.ver, .slice ia n1 ic, .slice oa n2 oc, .int .u32 z.tx.lock]) km kk) (s := 22) (l := lx) (w0 := w0) (L := L) (xs := [(.pointer (some ⟨X, 0, none⟩)), x1, x2, x3, x4, x5, x6, x7, x8, x9, x10, x11, x12, x13, x14, x15, x16, x17, x18, x19, x20, x21, x22]) (lo := lo) (hi := hi') (o := ox) (a := ax) (w := wr) (i := 1) (k := 21) (by decide) (.int .u8 z.kind)
      refine kk _ _ _ ?_ ?_
      · simp [putAll, execOp, go_sem, t0]
      · exact rfl
    | 2, ho =>
      obtain rfl := Option.some.inj ho
      have h_1 : x1 = .int .u8 z.kind := hmd.rel 1 (hpre 1 (by kernel_rfl))
      subst h_1
      have kk := fun lx ox ax => sstep_pure (P := Tryz.prog) (R := RM7 X z (.agg #[.int .u32 z.tx.ver, .slice ia n1 ic, .slice oa n2 oc, .int .u32 z.tx.lock]) km kk) (s := 22) (l := lx) (w0 := w0) (L := L) (xs := [x0, (.int .u8 z.kind), x2, x3, x4, x5, x6, x7, x8, x9, x10, x11, x12, x13, x14, x15, x16, x17, x18, x19, x20, x21, x22]) (lo := lo) (hi := hi') (o := ox) (a := ax) (w := wr) (i := 2) (k := 21) (by decide) (.int .u8 km)
      refine kk _ _ _ ?_ ?_
      · simp [putAll, execOp, go_sem, ekm, wkm]
      · exact rfl
    | 3, ho =>
      obtain rfl := Option.some.inj ho
      have h_2 : x2 = .int .u8 km := hmd.rel 2 (hpre 2 (by kernel_rfl))
      subst h_2
      have kk := fun lx ox ax => sstep_pure (P := Tryz.prog) (R := RM7 X z (.agg #[.int .u32 z.tx.ver, .slice ia n1 ic, .slice oa n2 oc, .int .u32 z.tx.lock]) km kk) (s := 22) (l := lx) (w0 := w0) (L := L) (xs := [x0, x1, (.int .u8 km), x3, x4, x5, x6, x7, x8, x9, x10, x11, x12, x13, x14, x15, x16, x17, x18, x19, x20, x21, x22]) (lo := lo) (hi := hi') (o := ox) (a := ax) (w := wr) (i := 3) (k := 21) (by decide) (.int .i64 km)
      refine kk _ _ _ ?_ ?_
      · (have wk6 : IntKind.i64.wrap (km : Int) = (km : Int) := by (rw [IntKind.wrap_i64]; omega)); simp [putAll, execOp, go_sem, wk6]
      · exact rfl
    | 4, ho =>
      obtain rfl := Option.some.inj ho
      have h_3 : x3 = .int .i64 km := hmd.rel 3 (hpre 3 (by kernel_rfl))
      subst h_3
      have kk := fun lx ox ax => sstep_pure (P := Tryz.prog) (R := RM7 X z (.agg #[.int .u32 z.tx.ver, .slice ia n1 ic, .slice oa n2 oc, .int .u32 z.tx.lock]) km kk) (s := 22) (l := lx) (w0 := w0) (L := L) (xs := [x0, x1, x2, (.int .i64 km), x4, x5, x6, x7, x8, x9, x10, x11, x12, x13, x14, x15, x16, x17, x18, x19, x20, x21, x22]) (lo := lo) (hi := hi') (o := ox) (a := ax) (w := wr) (i := 4) (k := 21) (by decide) (.int .i64 kk)
      refine kk _ _ _ ?_ ?_
      · simp [putAll, execOp, go_sem, ekk, wkk]
      · exact rfl
    | 5, ho =>
      obtain rfl := Option.some.inj ho
      have kk := fun lx ox ax => sstep_pure (P := Tryz.prog) (R := RM7 X z (.agg #[.int .u32 z.tx.ver, .slice ia n1 ic, .slice oa n2 oc, .int .u32 z.tx.lock]) km kk) (s := 22) (l := lx) (w0 := w0) (L := L) (xs := [x0, x1, x2, x3, x4, x5, x6, x7, x8, x9, x10, x11, x12, x13, x14, x15, x16, x17, x18, x19, x20, x21, x22]) (lo := lo) (hi := hi') (o := ox) (a := ax) (w := wr) (i := 5) (k := 21) (by decide) (.pointer (some ⟨X, 1, none⟩))
      refine kk _ _ _ ?_ ?_
      · kernel_rfl
      · exact rfl
    | 6, ho =>
      obtain rfl := Option.some.inj ho
      have h_5 : x5 = .pointer (some ⟨X, 1, none⟩) := hmd.rel 5 (hpre 5 (by kernel_rfl))
      subst h_5
      have t1 := below_cells hmd.bel _ _ x1_
      have kk := fun lx ox ax => sstep_pure (P := Tryz.prog) (R := RM7 X z (.agg #[.int .u32 z.tx.ver, .slice ia n1 ic, .slice oa n2 oc, .int .u32 z.tx.lock]) km kk) (s := 22) (l := lx) (w0 := w0) (L := L) (xs := [x0, x1, x2, x3, x4, (.pointer (some ⟨X, 1, none⟩)), x6, x7, x8, x9, x10, x11, x12, x13, x14, x15, x16, x17, x18, x19, x20, x21, x22]) (lo := lo) (hi := hi') (o := ox) (a := ax) (w := wr) (i := 6) (k := 21) (by decide) (.int .u8 z.num)
      refine kk _ _ _ ?_ ?_
      · simp [putAll, execOp, go_sem, t1]
      · exact rfl
    | 7, ho =>
      obtain rfl := Option.some.inj ho
      have h_6 : x6 = .int .u8 z.num := hmd.rel 6 (hpre 6 (by kernel_rfl))
      subst h_6
      have kk := fun lx ox ax => sstep_pure (P := Tryz.prog) (R := RM7 X z (.agg #[.int .u32 z.tx.ver, .slice ia n1 ic, .slice oa n2 oc, .int .u32 z.tx.lock]) km kk) (s := 22) (l := lx) (w0 := w0) (L := L) (xs := [x0, x1, x2, x3, x4, x5, (.int .u8 z.num), x7, x8, x9, x10, x11, x12, x13, x14, x15, x16, x17, x18, x19, x20, x21, x22]) (lo := lo) (hi := hi') (o := ox) (a := ax) (w := wr) (i := 7) (k := 21) (by decide) (.int .i64 z.num)
      refine kk _ _ _ ?_ ?_
      · (have wk6 : IntKind.i64.wrap (z.num : Int) = (z.num : Int) := by (have := HK.out.num; rw [IntKind.wrap_i64]; omega)); simp [putAll, execOp, go_sem, wk6]
      · exact rfl
    | 8, ho =>
      obtain rfl := Option.some.inj ho
      have kk := fun lx ox ax => sstep_pure (P := Tryz.prog) (R := RM7 X z (.agg #[.int .u32 z.tx.ver, .slice ia n1 ic, .slice oa n2 oc, .int .u32 z.tx.lock]) km kk) (s := 22) (l := lx) (w0 := w0) (L := L) (xs := [x0, x1, x2, x3, x4, x5, x6, x7, x8, x9, x10, x11, x12, x13, x14, x15, x16, x17, x18, x19, x20, x21, x22]) (lo := lo) (hi := hi') (o := ox) (a := ax) (w := wr) (i := 8) (k := 21) (by decide) (.pointer (some ⟨X, 2, none⟩))
      refine kk _ _ _ ?_ ?_
      · kernel_rfl
      · exact rfl
    | 9, ho =>
      obtain rfl := Option.some.inj ho
      have h_8 : x8 = .pointer (some ⟨X, 2, none⟩) := hmd.rel 8 (hpre 8 (by kernel_rfl))
      subst h_8
      have t2 := below_cells hmd.bel _ _ x2_
      have t3 := below_cells hmd.bel _ _ x3_
      have t4 := below_cells hmd.bel _ _ x4_
      have t5 := below_cells hmd.bel _ _ x5_
      have kk := fun lx ox ax => sstep_pure (P := Tryz.prog) (R := RM7 X z (.agg #[.int .u32 z.tx.ver, .slice ia n1 ic, .slice oa n2 oc, .int .u32 z.tx.lock]) km kk) (s := 22) (l := lx) (w0 := w0) (L := L) (xs := [x0, x1, x2, x3, x4, x5, x6, x7, (.pointer (some ⟨X, 2, none⟩)), x9, x10, x11, x12, x13, x14, x15, x16, x17, x18, x19, x20, x21, x22]) (lo := lo) (hi := hi') (o := ox) (a := ax) (w := wr) (i := 9) (k := 21) (by decide) (.agg #[.int .u32 z.tx.ver, .slice ia n1 ic, .slice oa n2 oc, .int .u32 z.tx.lock])
      refine kk _ _ _ ?_ ?_
      · simp [putAll, execOp, go_sem, t2, t3, t4, t5]
      · exact rfl
    | 10, ho =>
      obtain rfl := Option.some.inj ho
      have h_9 : x9 = .agg #[.int .u32 z.tx.ver, .slice ia n1 ic, .slice oa n2 oc, .int .u32 z.tx.lock] := hmd.rel 9 (hpre 9 (by kernel_rfl))
      subst h_9
      have kk := fun lx ox ax => sstep_call (P := Tryz.prog) (R := RM7 X z (.agg #[.int .u32 z.tx.ver, .slice ia n1 ic, .slice oa n2 oc, .int .u32 z.tx.lock]) km kk) (s := 22) (l := lx) (w0 := w0) (L := L) (xs := [x0, x1, x2, x3, x4, x5, x6, x7, x8, (.agg #[.int .u32 z.tx.ver, .slice ia n1 ic, .slice oa n2 oc, .int .u32 z.tx.lock]), x10, x11, x12, x13, x14, x15, x16, x17, x18, x19, x20, x21, x22]) (lo := lo) (hi := hi') (o := ox) (a := ax) (w := wr) (i := 10) (k := 21) (by decide) (fit_any (.agg #[.int .u32 z.tx.ver, .slice ia n1 ic, .slice oa n2 oc, .int .u32 z.tx.lock]) z.tx wr (HT.out.mono (below_cells hmd.bel)))
      refine kk _ _ _ ?_ ?_
      · kernel_rfl
      · exact fun e w' ⟨v, t, he, ht, hf, hb⟩ => ⟨v, he, hb, FitV.of ht hf⟩
    | 11, ho =>
      obtain rfl := Option.some.inj ho
      have kk := fun lx ox ax => sstep_pure (P := Tryz.prog) (R := RM7 X z (.agg #[.int .u32 z.tx.ver, .slice ia n1 ic, .slice oa n2 oc, .int .u32 z.tx.lock]) km kk) (s := 22) (l := lx) (w0 := w0) (L := L) (xs := [x0, x1, x2, x3, x4, x5, x6, x7, x8, x9, x10, x11, x12, x13, x14, x15, x16, x17, x18, x19, x20, x21, x22]) (lo := lo) (hi := hi') (o := ox) (a := ax) (w := wr) (i := 11) (k := 21) (by decide) (.pointer (some ⟨X, 13, none⟩))
      refine kk _ _ _ ?_ ?_
      · kernel_rfl
      · exact rfl
    | 12, ho =>
      obtain rfl := Option.some.inj ho
      have h_11 : x11 = .pointer (some ⟨X, 13, none⟩) := hmd.rel 11 (hpre 11 (by kernel_rfl))
      subst h_11
      have t13 := below_cells hmd.bel _ _ x13_
      have kk := fun lx ox ax => sstep_pure (P := Tryz.prog) (R := RM7 X z (.agg #[.int .u32 z.tx.ver, .slice ia n1 ic, .slice oa n2 oc, .int .u32 z.tx.lock]) km kk) (s := 22) (l := lx) (w0 := w0) (L := L) (xs := [x0, x1, x2, x3, x4, x5, x6, x7, x8, x9, x10, (.pointer (some ⟨X, 13, none⟩)), x12, x13, x14, x15, x16, x17, x18, x19, x20, x21, x22]) (lo := lo) (hi := hi') (o := ox) (a := ax) (w := wr) (i := 12) (k := 21) (by decide) (.int .u32 z.budget)
      refine kk _ _ _ ?_ ?_
      · simp [putAll, execOp, go_sem, t13]
      · exact rfl
    | 13, ho =>
      obtain rfl := Option.some.inj ho
      have h_12 : x12 = .int .u32 z.budget := hmd.rel 12 (hpre 12 (by kernel_rfl))
      subst h_12
      have kk := fun lx ox ax => sstep_pure (P := Tryz.prog) (R := RM7 X z (.agg #[.int .u32 z.tx.ver, .slice ia n1 ic, .slice oa n2 oc, .int .u32 z.tx.lock]) km kk) (s := 22) (l := lx) (w0 := w0) (L := L) (xs := [x0, x1, x2, x3, x4, x5, x6, x7, x8, x9, x10, x11, (.int .u32 z.budget), x13, x14, x15, x16, x17, x18, x19, x20, x21, x22]) (lo := lo) (hi := hi') (o := ox) (a := ax) (w := wr) (i := 13) (k := 21) (by decide) (.int .i64 z.budget)
      refine kk _ _ _ ?_ ?_
      · (have wk6 : IntKind.i64.wrap (z.budget : Int) = (z.budget : Int) := by (have := HK.out.budget; rw [IntKind.wrap_i64]; omega)); simp [putAll, execOp, go_sem, wk6]
      · exact rfl
    | 14, ho =>
      obtain rfl := Option.some.inj ho
      have kk := fun lx ox ax => sstep_pure (P := Tryz.prog) (R := RM7 X z (.agg #[.int .u32 z.tx.ver, .slice ia n1 ic, .slice oa n2 oc, .int .u32 z.tx.lock]) km kk) (s := 22) (l := lx) (w0 := w0) (L := L) (xs := [x0, x1, x2, x3, x4, x5, x6, x7, x8, x9, x10, x11, x12, x13, x14, x15, x16, x17, x18, x19, x20, x21, x22]) (lo := lo) (hi := hi') (o := ox) (a := ax) (w := wr) (i := 14) (k := 21) (by decide) (.pointer (some ⟨X, 16, none⟩))
      refine kk _ _ _ ?_ ?_
      · kernel_rfl
      · exact rfl
    | 15, ho =>
      obtain rfl := Option.some.inj ho
      have h_14 : x14 = .pointer (some ⟨X, 16, none⟩) := hmd.rel 14 (hpre 14 (by kernel_rfl))
      subst h_14
      have t16 := below_cells hmd.bel _ _ x16_
      have kk := fun lx ox ax => sstep_pure (P := Tryz.prog) (R := RM7 X z (.agg #[.int .u32 z.tx.ver, .slice ia n1 ic, .slice oa n2 oc, .int .u32 z.tx.lock]) km kk) (s := 22) (l := lx) (w0 := w0) (L := L) (xs := [x0, x1, x2, x3, x4, x5, x6, x7, x8, x9, x10, x11, x12, x13, (.pointer (some ⟨X, 16, none⟩)), x15, x16, x17, x18, x19, x20, x21, x22]) (lo := lo) (hi := hi') (o := ox) (a := ax) (w := wr) (i := 15) (k := 21) (by decide) (.int .u16 z.start)
      refine kk _ _ _ ?_ ?_
      · simp [putAll, execOp, go_sem, t16]
      · exact rfl
    | 16, ho =>
      obtain rfl := Option.some.inj ho
      have h_15 : x15 = .int .u16 z.start := hmd.rel 15 (hpre 15 (by kernel_rfl))
      subst h_15
      have kk := fun lx ox ax => sstep_pure (P := Tryz.prog) (R := RM7 X z (.agg #[.int .u32 z.tx.ver, .slice ia n1 ic, .slice oa n2 oc, .int .u32 z.tx.lock]) km kk) (s := 22) (l := lx) (w0 := w0) (L := L) (xs := [x0, x1, x2, x3, x4, x5, x6, x7, x8, x9, x10, x11, x12, x13, x14, (.int .u16 z.start), x16, x17, x18, x19, x20, x21, x22]) (lo := lo) (hi := hi') (o := ox) (a := ax) (w := wr) (i := 16) (k := 21) (by decide) (.int .i64 z.start)
      refine kk _ _ _ ?_ ?_
      · (have wk6 : IntKind.i64.wrap (z.start : Int) = (z.start : Int) := by (have := HK.out.start; rw [IntKind.wrap_i64]; omega)); simp [putAll, execOp, go_sem, wk6]
      · exact rfl
    | 17, ho =>
      obtain rfl := Option.some.inj ho
      have kk := fun lx ox ax => sstep_pure (P := Tryz.prog) (R := RM7 X z (.agg #[.int .u32 z.tx.ver, .slice ia n1 ic, .slice oa n2 oc, .int .u32 z.tx.lock]) km kk) (s := 22) (l := lx) (w0 := w0) (L := L) (xs := [x0, x1, x2, x3, x4, x5, x6, x7, x8, x9, x10, x11, x12, x13, x14, x15, x16, x17, x18, x19, x20, x21, x22]) (lo := lo) (hi := hi') (o := ox) (a := ax) (w := wr) (i := 17) (k := 21) (by decide) (.pointer (some ⟨X, 14, none⟩))
      refine kk _ _ _ ?_ ?_
      · kernel_rfl
      · exact rfl
    | 18, ho =>
      obtain rfl := Option.some.inj ho
      have h_17 : x17 = .pointer (some ⟨X, 14, none⟩) := hmd.rel 17 (hpre 17 (by kernel_rfl))
      subst h_17
      have t14 := below_cells hmd.bel _ _ x14_
      have kk := fun lx ox ax => sstep_pure (P := Tryz.prog) (R := RM7 X z (.agg #[.int .u32 z.tx.ver, .slice ia n1 ic, .slice oa n2 oc, .int .u32 z.tx.lock]) km kk) (s := 22) (l := lx) (w0 := w0) (L := L) (xs := [x0, x1, x2, x3, x4, x5, x6, x7, x8, x9, x10, x11, x12, x13, x14, x15, x16, (.pointer (some ⟨X, 14, none⟩)), x18, x19, x20, x21, x22]) (lo := lo) (hi := hi') (o := ox) (a := ax) (w := wr) (i := 18) (k := 21) (by decide) (.int .u32 z.fee)
      refine kk _ _ _ ?_ ?_
      · simp [putAll, execOp, go_sem, t14]
      · exact rfl
    | 19, ho =>
      obtain rfl := Option.some.inj ho
      have h_18 : x18 = .int .u32 z.fee := hmd.rel 18 (hpre 18 (by kernel_rfl))
      subst h_18
      have kk := fun lx ox ax => sstep_pure (P := Tryz.prog) (R := RM7 X z (.agg #[.int .u32 z.tx.ver, .slice ia n1 ic, .slice oa n2 oc, .int .u32 z.tx.lock]) km kk) (s := 22) (l := lx) (w0 := w0) (L := L) (xs := [x0, x1, x2, x3, x4, x5, x6, x7, x8, x9, x10, x11, x12, x13, x14, x15, x16, x17, (.int .u32 z.fee), x19, x20, x21, x22]) (lo := lo) (hi := hi') (o := ox) (a := ax) (w := wr) (i := 19) (k := 21) (by decide) (.int .i64 z.fee)
      refine kk _ _ _ ?_ ?_
      · (have wk6 : IntKind.i64.wrap (z.fee : Int) = (z.fee : Int) := by (have := HK.out.fee; rw [IntKind.wrap_i64]; omega)); simp [putAll, execOp, go_sem, wk6]
      · exact rfl
    | 20, ho =>
      obtain rfl := Option.some.inj ho
      have h_4 : x4 = .int .i64 kk := hmd.rel 4 (hpre 4 (by kernel_rfl))
      subst h_4
      have h_7 : x7 = .int .i64 z.num := hmd.rel 7 (hpre 7 (by kernel_rfl))
      subst h_7
      have h_13 : x13 = .int .i64 z.budget := hmd.rel 13 (hpre 13 (by kernel_rfl))
      subst h_13
      have h_16 : x16 = .int .i64 z.start := hmd.rel 16 (hpre 16 (by kernel_rfl))
      subst h_16
      have h_19 : x19 = .int .i64 z.fee := hmd.rel 19 (hpre 19 (by kernel_rfl))
      subst h_19
      have r10 : FitV x10 (lo 10) (hi' 10) wr := hmd.rel 10 (hpre 10 (by kernel_rfl))
      cases r10 with
      | intro t r10 =>
      cases r10 with
      | intro ja' r10 =>
      cases r10 with
      | intro jc' r10 =>
      cases r10 with
      | intro qa' r10 =>
      cases r10 with
      | intro qc' r10 =>
      cases r10 with
      | intro r10 _ =>
      cases r10
      have kk := fun lx ox ax => sstep_pure (P := Tryz.prog) (R := RM7 X z (.agg #[.int .u32 z.tx.ver, .slice ia n1 ic, .slice oa n2 oc, .int .u32 z.tx.lock]) km kk) (s := 22) (l := lx) (w0 := w0) (L := L) (xs := [x0, x1, x2, x3, (.int .i64 kk), x5, x6, (.int .i64 z.num), x8, x9, (.agg #[.int .u32 t.ver, .slice ja' t.ins.length jc', .slice qa' t.outs.length qc', .int .u32 t.lock]), x11, x12, (.int .i64 z.budget), x14, x15, (.int .i64 z.start), x17, x18, (.int .i64 z.fee), x20, x21, x22]) (lo := lo) (hi := hi') (o := ox) (a := ax) (w := wr) (i := 20) (k := 21) (by decide) (.agg #[.int .i64 kk, .int .i64 z.num, .int .u32 t.ver, .slice ja' t.ins.length jc', .slice qa' t.outs.length qc', .int .u32 t.lock, .int .i64 0, .string ⟨#[]⟩, .int .u32 0, .int .i64 0, .int .i64 0, .int .u16 0, .int .u16 0, .int .u32 0, .int .i64 0, .int .i64 z.budget, .int .i64 z.start, .int .i64 z.fee])
      refine kk _ _ _ ?_ ?_
      · kernel_rfl
      · exact rfl
    | 21, ho =>
      obtain rfl := Option.some.inj ho
      have kk := fun lx ox ax => sstep_new (P := Tryz.prog) (R := RM7 X z (.agg #[.int .u32 z.tx.ver, .slice ia n1 ic, .slice oa n2 oc, .int .u32 z.tx.lock]) km kk) (s := 22) (l := lx) (w0 := w0) (L := L) (xs := [x0, x1, x2, x3, x4, x5, x6, x7, x8, x9, x10, x11, x12, x13, x14, x15, x16, x17, x18, x19, x20, x21, x22]) (lo := lo) (hi := hi') (o := ox) (a := ax) (w := wr) (i := 21) (k := 21) (by decide) (.pointer (some ⟨wr.heap.size, 0, none⟩)) (.cells #[.int .i64 0, .int .i64 0, .int .u32 0, .slice none 0 0, .slice none 0 0, .int .u32 0, .int .i64 0, .string ⟨#[]⟩, .int .u32 0, .int .i64 0, .int .i64 0, .int .u16 0, .int .u16 0, .int .u32 0, .int .i64 0, .int .i64 0, .int .i64 0, .int .i64 0] 35)
      refine kk _ _ _ ?_ ?_
      · kernel_rfl
      · exact ⟨_, Nat.le_refl _, rfl, fun _ => ⟨by simp, heap_alloc_new wr _⟩⟩
    | 22, ho =>
      obtain rfl := Option.some.inj ho
      have l20 : L 20 := hpre 20 (by kernel_rfl)
      have l10 : L 10 := hmd.closed 20 l20 10 (by kernel_rfl)
      have h20 : x20 = rowM kk z x10 := hmd.val l20 (fun d => rowM kk z (d.getD 2 undef)) rfl rfl (by kernel_rfl)
      have r21 : ∃ b, lo 21 ≤ b ∧ x21 = .pointer (some ⟨b, 0, none⟩) ∧ (¬ L 22 → b < hi' 21 ∧ wr.heap[b]? = some (.cells #[.int .i64 0, .int .i64 0, .int .u32 0, .slice none 0 0, .slice none 0 0, .int .u32 0, .int .i64 0, .string ⟨#[]⟩, .int .u32 0, .int .i64 0, .int .i64 0, .int .u16 0, .int .u16 0, .int .u32 0, .int .i64 0, .int .i64 0, .int .i64 0, .int .i64 0] 35 (0, 0))) := hmd.rel 21 (hpre 21 (by kernel_rfl))
      have r10 : FitV x10 (lo 10) (hi' 10) wr := hmd.rel 10 l10
      cases r10 with
      | intro t r10 =>
      cases r10 with
      | intro ja' r10 =>
      cases r10 with
      | intro jc' r10 =>
      cases r10 with
      | intro qa' r10 =>
      cases r10 with
      | intro qc' r10 =>
      cases r10 with
      | intro r10 _ =>
      cases r10
      cases h20
      cases r21 with
      | intro bk h16 =>
      cases h16 with
      | intro _ h16 =>
      cases h16 with
      | intro h16 _ =>
      cases h16
      have kk2 := fun lx ox ax => sstep_row (P := Tryz.prog) (R := RM7 X z (.agg #[.int .u32 z.tx.ver, .slice ia n1 ic, .slice oa n2 oc, .int .u32 z.tx.lock]) km kk) (s := 22) (l := lx) (n := 23) (w0 := w0) (L := L) (xs := [x0, x1, x2, x3, x4, x5, x6, x7, x8, x9, (.agg #[.int .u32 t.ver, .slice ja' t.ins.length jc', .slice qa' t.outs.length qc', .int .u32 t.lock]), x11, x12, x13, x14, x15, x16, x17, x18, x19, (.agg #[.int .i64 kk, .int .i64 z.num, .int .u32 t.ver, .slice ja' t.ins.length jc', .slice qa' t.outs.length qc', .int .u32 t.lock, .int .i64 0, .string ⟨#[]⟩, .int .u32 0, .int .i64 0, .int .i64 0, .int .u16 0, .int .u16 0, .int .u32 0, .int .i64 0, .int .i64 z.budget, .int .i64 z.start, .int .i64 z.fee]), (.pointer (some ⟨bk, 0, none⟩)), x22]) (lo := lo) (hi := hi') (o := ox) (a := ax) (w := wr) (k := 21) (35) (.tmp 4) (.tmp 48) (35) #[.int .i64 0, .int .i64 0, .int .u32 0, .slice none 0 0, .slice none 0 0, .int .u32 0, .int .i64 0, .string ⟨#[]⟩, .int .u32 0, .int .i64 0, .int .i64 0, .int .u16 0, .int .u16 0, .int .u32 0, .int .i64 0, .int .i64 0, .int .i64 0, .int .i64 0] #[.int .i64 kk, .int .i64 z.num, .int .u32 t.ver, .slice ja' t.ins.length jc', .slice qa' t.outs.length qc', .int .u32 t.lock, .int .i64 0, .string ⟨#[]⟩, .int .u32 0, .int .i64 0, .int .i64 0, .int .u16 0, .int .u16 0, .int .u32 0, .int .i64 0, .int .i64 z.budget, .int .i64 z.start, .int .i64 z.fee] bk
      refine kk2 _ _ _ ?_ ?_ ?_ ?_ ?_ ?_ ?_ ?_ ?_ ?_ ?_ ?_ ?_ ?_ ?_
      · exact rfl
      · exact rfl
      · exact rfl
      · exact hmd
      · exact hni
      · exact hpre 21 (by kernel_rfl)
      · rfl
      · rfl
      · kernel_rfl
      · kernel_rfl
      · kernel_rfl
      · rfl
      · kernel_rfl
      · kernel_rfl
      · kernel_rfl
    | q + 23, ho => omega
  · intro xs lo hi wr hmd
    obtain ⟨x0, x1, x2, x3, x4, x5, x6, x7, x8, x9, x10, x11, x12, x13, x14, x15, x16, x17, x18, x19, x20, x21, x22, rfl⟩ : ∃ x0 x1 x2 x3 x4 x5 x6 x7 x8 x9 x10 x11 x12 x13 x14 x15 x16 x17 x18 x19 x20 x21 x22, xs = [x0, x1, x2, x3, x4, x5, x6, x7, x8, x9, x10, x11, x12, x13, x14, x15, x16, x17, x18, x19, x20, x21, x22] := by match xs, hmd.len with | [x0, x1, x2, x3, x4, x5, x6, x7, x8, x9, x10, x11, x12, x13, x14, x15, x16, x17, x18, x19, x20, x21, x22], _ => exact ⟨_, _, _, _, _, _, _, _, _, _, _, _, _, _, _, _, _, _, _, _, _, _, _, rfl⟩
    simp only [putAll]
    change wpList _ _ _ [] _ _
    have h20 : x20 = rowM kk z x10 := hmd.val (show 20 < 23 by decide) (fun d => rowM kk z (d.getD 2 undef)) rfl rfl (by kernel_rfl)
    have r10 : FitV x10 (lo 10) (hi 10) wr := hmd.rel 10 (by decide)
    have r22 := hmd.st (show 22 < 23 by decide) (x := x21) (y := x20) (t := 35) rfl (by kernel_rfl) (by kernel_rfl)
    have hap := hmd.apart 10 22 (by decide) (by decide) (by decide)
    have hlh := hmd.lohi 10 (by decide)
    have hlh2 := hmd.lohi 22 (by decide)
    have hbel := hmd.bel
    obtain rfl : x0 = .pointer (some ⟨X, 0, none⟩) := hmd.rel 0 (by decide)
    obtain rfl : x1 = .int .u8 z.kind := hmd.rel 1 (by decide)
    obtain rfl : x2 = .int .u8 km := hmd.rel 2 (by decide)
    obtain rfl : x3 = .int .i64 km := hmd.rel 3 (by decide)
    obtain rfl : x4 = .int .i64 kk := hmd.rel 4 (by decide)
    obtain rfl : x5 = .pointer (some ⟨X, 1, none⟩) := hmd.rel 5 (by decide)
    obtain rfl : x6 = .int .u8 z.num := hmd.rel 6 (by decide)
    obtain rfl : x7 = .int .i64 z.num := hmd.rel 7 (by decide)
    obtain rfl : x8 = .pointer (some ⟨X, 2, none⟩) := hmd.rel 8 (by decide)
    obtain rfl : x9 = .agg #[.int .u32 z.tx.ver, .slice ia n1 ic, .slice oa n2 oc, .int .u32 z.tx.lock] := hmd.rel 9 (by decide)
    obtain rfl : x11 = .pointer (some ⟨X, 13, none⟩) := hmd.rel 11 (by decide)
    obtain rfl : x12 = .int .u32 z.budget := hmd.rel 12 (by decide)
    obtain rfl : x13 = .int .i64 z.budget := hmd.rel 13 (by decide)
    obtain rfl : x14 = .pointer (some ⟨X, 16, none⟩) := hmd.rel 14 (by decide)
    obtain rfl : x15 = .int .u16 z.start := hmd.rel 15 (by decide)
    obtain rfl : x16 = .int .i64 z.start := hmd.rel 16 (by decide)
    obtain rfl : x17 = .pointer (some ⟨X, 14, none⟩) := hmd.rel 17 (by decide)
    obtain rfl : x18 = .int .u32 z.fee := hmd.rel 18 (by decide)
    obtain rfl : x19 = .int .i64 z.fee := hmd.rel 19 (by decide)
    clear hmd
    obtain ⟨V, csV, hlo, hhi, h21, h20', gV⟩ := r22
    obtain ⟨t, ja', jc', qa', qc', h10, hf8, htell⟩ := r10
    subst h21
    subst h10
    subst h20
    obtain rfl : csV = #[.int .i64 kk, .int .i64 z.num, .int .u32 t.ver, .slice ja' t.ins.length jc', .slice qa' t.outs.length qc', .int .u32 t.lock, .int .i64 0, .string ⟨#[]⟩, .int .u32 0, .int .i64 0, .int .i64 0, .int .u16 0, .int .u16 0, .int .u32 0, .int .i64 0, .int .i64 z.budget, .int .i64 z.start, .int .i64 z.fee] := by injection h20' with e; exact e.symm
    have HOWN := hid (show ∀ w' : World, (∀ b, b ≠ V → w0.heap.size ≤ b → b < wr.heap.size → w'.heap[b]? = wr.heap[b]?) → TxOwn w0.heap.size w' (.agg #[.int .u32 t.ver, .slice ja' t.ins.length jc', .slice qa' t.outs.length qc', .int .u32 t.lock]) t from fun w' hk => (htell w' fun b hb1 hb2 => hk b (by omega) (by omega) (by omega)).base hlh.1)
    have HF8 := hid hf8
    have HV := hid gV
    have HVX := hid (show X + 1 < w0.heap.size ∧ w0.heap.size ≤ V from ⟨(Array.getElem?_eq_some_iff.1 HZ1.out).1, by omega⟩)
    have HZ0 := hid (stay HZ0.out hbel)
    have HZ1 := hid (stay HZ1.out hbel)
    have HB := hid (HB.out.trans (hbel.mono HB.out.size))
    have HSZ := hid hbel.size
    clear h20' htell hf8 hap hlh hlh2 hbel gV hlo hhi hkk hkm ekm wkm ekk wkk hkb hkm5 HT x0_ x1_ x2_ x3_ x4_ x5_ x13_ x16_ x14_
    refine Eq.mpr (congrArg (fun q => wpList _ _ _ [] q wr) (show _ = ({ tmps := #[.agg #[.int .u8 z.kind, .int .u8 z.num, .int .u32 z.tx.ver, .slice ia n1 ic, .slice oa n2 oc, .int .u32 z.tx.lock, .int .u8 z.index, .int .u8 z.br, .int .u16 z.tag, .int .u16 z.delay, .int .u32 z.height, .int .u8 z.point, .int .u32 z.val, .int .u32 z.budget, .int .u32 z.fee, .int .u16 z.dead, .int .u16 z.start, .int .i64 z.raw.kind, .int .i64 z.raw.num, .int .u32 z.raw.tx.ver, .slice ja n3 jc, .slice qa n4 qc, .int .u32 z.raw.tx.lock, .int .i64 z.raw.index, .string z.raw.id, .int .u32 z.raw.idx, .int .i64 z.raw.val, .int .i64 z.raw.br, .int .u16 z.raw.tag, .int .u16 z.raw.delay, .int .u32 z.raw.height, .int .i64 z.raw.dead, .int .i64 z.raw.budget, .int .i64 z.raw.start, .int .i64 z.raw.fee, .bool false], .pointer (some ⟨X, 0, none⟩), .pointer (some ⟨X + 1, 0, none⟩), undef, .pointer (some ⟨V, 0, none⟩), .pointer (some ⟨X, 35, none⟩), .bool false, undef, undef, undef, undef, undef, undef, undef, undef, undef, undef, undef, undef, undef, undef, undef, undef, undef, undef, undef, undef, undef, .pointer (some ⟨X, 0, none⟩), .int .u8 z.kind, .int .u8 km, .int .i64 km, .int .i64 kk, .pointer (some ⟨X, 1, none⟩), .int .u8 z.num, .int .i64 z.num, .pointer (some ⟨X, 2, none⟩), .agg #[.int .u32 z.tx.ver, .slice ia n1 ic, .slice oa n2 oc, .int .u32 z.tx.lock], .agg #[.int .u32 t.ver, .slice ja' t.ins.length jc', .slice qa' t.outs.length qc', .int .u32 t.lock], .pointer (some ⟨X, 13, none⟩), .int .u32 z.budget, .int .i64 z.budget, .pointer (some ⟨X, 16, none⟩), .int .u16 z.start, .int .i64 z.start, .pointer (some ⟨X, 14, none⟩), .int .u32 z.fee, .int .i64 z.fee, .agg #[.int .i64 kk, .int .i64 z.num, .int .u32 t.ver, .slice ja' t.ins.length jc', .slice qa' t.outs.length qc', .int .u32 t.lock, .int .i64 0, .string ⟨#[]⟩, .int .u32 0, .int .i64 0, .int .i64 0, .int .u16 0, .int .u16 0, .int .u32 0, .int .i64 0, .int .i64 z.budget, .int .i64 z.start, .int .i64 z.fee], undef, undef, undef, undef, undef, undef, undef, undef, undef, undef, undef, undef, undef, undef, undef, undef, undef, undef, undef, undef, undef, undef, undef, undef, undef, undef, undef, undef, undef, undef, undef, undef, undef, undef, undef, undef, undef, undef, undef, undef, undef, undef, undef, undef, undef, undef, undef], defers := [] } : Act) from ?hfr)) ?_
    case hfr => kernel_rfl
    obtain ⟨m1, hm1⟩ : ∃ q, q = t.ins.length := ⟨_, rfl⟩
    obtain ⟨m2, hm2⟩ : ∃ q, q = t.outs.length := ⟨_, rfl⟩
    rw [← hm1, ← hm2] at HOWN HV
    rw [← hm1, ← hm2]
    rw [← hm2] at HF8
    have HM2 := hid hm2
    clear hm1 hm2
    have v4 : wr.cell? ⟨V, 4, none⟩ = some (.slice qa' m2 qc') := cell_at HV.out
    go_upto_if 53 with fail
    go_cut [] (fun wx => ∃ iv : Int, i64R iv ∧ wx.heap[V]? = some (.cells #[.int .i64 kk, .int .i64 z.num, .int .u32 t.ver, .slice ja' m1 jc', .slice qa' m2 qc', .int .u32 t.lock, .int .i64 iv, .string ⟨#[]⟩, .int .u32 0, .int .i64 0, .int .i64 0, .int .u16 0, .int .u16 0, .int .u32 0, .int .i64 0, .int .i64 z.budget, .int .i64 z.start, .int .i64 z.fee] 35 (0, 0)) ∧ Fr [V] wr wx)
    case first =>
      by_cases hm : (0 : Int) < (m2 : Int)
      · have hne : ¬ (m2 : Int) = 0 := by omega
        have hne2 : ((m2 : Int) == 0) = false := by rw [beq_eq_false_iff_ne]; exact hne
        have hzi := HK.out.index
        obtain ⟨ii, hii⟩ : ∃ k : Int, k = (z.index : Int).tmod (m2 : Int) := ⟨_, rfl⟩
        have hir : 0 ≤ ii ∧ ii < 256 := by
          rw [hii, show (z.index : Int).tmod (m2 : Int) = ((z.index % m2 : Nat) : Int) from by rw [Int.tmod_eq_emod_of_nonneg (by omega)]; rfl]
          have := Nat.mod_le z.index m2
          omega
        have eii : (z.index : Int).tmod (m2 : Int) = ii := hii.symm
        have wii : IntKind.i64.wrap ii = ii := by rw [IntKind.wrap_i64]; omega
        have wzi : IntKind.i64.wrap (z.index : Int) = (z.index : Int) := by rw [IntKind.wrap_i64]; omega
        have HII := hid hir
        clear hii hir hzi
        have x6_ : wr.cell? ⟨X, 6, none⟩ = some (.int .u8 z.index) := cell_at HZ0.out
        have v6 : wr.cell? ⟨V, 6, none⟩ = some (.int .i64 0) := cell_at HV.out
        have g6 : wr.frozen? ⟨V, 6, none⟩ = false := free_at HV.out
        go_wp2_with fail
        go_meet
        exact ⟨ii, ⟨by have := HII.out; omega, by have := HII.out; omega⟩, heap_setCell_at (j := 6) (u := .int .i64 ii) HV.out, Fr.setCell _ _ _ (by simp)⟩
      · go_wp2_with fail
        go_meet
        exact ⟨0, i64R0, HV.out, Fr.refl _ _⟩
    case rest =>
      obtain ⟨iv, hiv, hV, hf⟩ := hcut
      clear v4
      have HIV := hid hiv
      have HV := hid hV
      have HZ0 := hid ((hf.block X (Array.getElem?_eq_some_iff.1 HZ0.out).1 (by have := HVX.out; simp; omega)).trans HZ0.out)
      have HFW := hid hf
      clear hiv hV hf
      have HNE := hid (show V ≠ X from by have := HVX.out; omega)
      have hzp := HK.out.point
      have hzv := HK.out.val
      have hzb := HK.out.br
      have hzd := HK.out.dead
      obtain ⟨p3, hp3⟩ : ∃ k, k = z.point % 3 := ⟨_, rfl⟩
      have ep3 : (z.point : Int).tmod 3 = (p3 : Int) := by rw [Int.tmod_eq_emod_of_nonneg (by omega)]; omega
      have wp3 : IntKind.u8.wrap (p3 : Int) = (p3 : Int) := by rw [IntKind.wrap_u8]; omega
      have wp3b : IntKind.u32.wrap (p3 : Int) = (p3 : Int) := by rw [IntKind.wrap_u32]; omega
      obtain ⟨b3, hb3⟩ : ∃ k, k = z.br % 3 := ⟨_, rfl⟩
      have eb3 : (z.br : Int).tmod 3 = (b3 : Int) := by rw [Int.tmod_eq_emod_of_nonneg (by omega)]; omega
      have wb3 : IntKind.u8.wrap (b3 : Int) = (b3 : Int) := by rw [IntKind.wrap_u8]; omega
      have wb3b : IntKind.i64.wrap (b3 : Int) = (b3 : Int) := by rw [IntKind.wrap_i64]; omega
      have w_point : IntKind.i64.wrap (z.point : Int) = (z.point : Int) := by rw [IntKind.wrap_i64]; omega
      have w_val : IntKind.i64.wrap (z.val : Int) = (z.val : Int) := by rw [IntKind.wrap_i64]; omega
      have w_dead : IntKind.i64.wrap (z.dead : Int) = (z.dead : Int) := by rw [IntKind.wrap_i64]; omega
      have HB3 := hid (show p3 < 3 ∧ b3 < 3 from by omega)
      obtain ⟨bid, hbid⟩ : ∃ b, b = idB z.point := ⟨_, rfl⟩
      have HBID := hid (show bid.size = 32 from by rw [hbid]; exact idB_size _)
      have HID := hid (show ∀ y : World, Calls Tryz.prog 38 #[.int .i64 z.point] y (fun e w' => e = .returned (.string bid) ∧ Below y.heap.size y w') from fun y => by rw [hbid]; exact id_any z.point y)
      clear hp3 hb3 hbid hzp hzv hzb hzd
      have HW := hid (show W10 X V (boxM z n1 n2 n3 n4 ia oa ja qa ic oc jc qc) (rowI z t kk iv m1 m2 ja' qa' jc' qc') (rowJ z t kk iv m1 m2 ja' qa' jc' qc' bid p3 b3) wc (fun _ => False) wc from W10.start HZ0.out HV.out HNE.out)
      go_upto_region 10 with fail
      refine wp_region_valsg (RL14 (v10 z X V bid p3 b3)) (W10 X V (boxM z n1 n2 n3 n4 ia oa ja qa ic oc jc qc) (rowI z t kk iv m1 m2 ja' qa' jc' qc') (rowJ z t kk iv m1 m2 ja' qa' jc' qc' bid p3 b3) wc) (by kernel_rfl) (by kernel_rfl) (by kernel_rfl) HW.out.drew ?_ ?_
      · intro i o hi ho L xs wr hmd hw hni hpre
        obtain ⟨x0, x1, x2, x3, x4, x5, x6, x7, x8, x9, x10, x11, x12, x13, x14, x15, x16, x17, x18, x19, x20, x21, x22, x23, rfl⟩ : ∃ x0 x1 x2 x3 x4 x5 x6 x7 x8 x9 x10 x11 x12 x13 x14 x15 x16 x17 x18 x19 x20 x21 x22 x23, xs = [x0, x1, x2, x3, x4, x5, x6, x7, x8, x9, x10, x11, x12, x13, x14, x15, x16, x17, x18, x19, x20, x21, x22, x23] := by match xs, hmd.len with | [x0, x1, x2, x3, x4, x5, x6, x7, x8, x9, x10, x11, x12, x13, x14, x15, x16, x17, x18, x19, x20, x21, x22, x23], _ => exact ⟨_, _, _, _, _, _, _, _, _, _, _, _, _, _, _, _, _, _, _, _, _, _, _, _, rfl⟩
        match i, ho with
        | 0, ho =>
          obtain rfl := Option.some.inj ho
          refine Or.inl ⟨by kernel_rfl, ?_⟩
          have kk2 := fun lx ox ax => vstep_run (P := Tryz.prog) (l := lx) (xs := [x0, x1, x2, x3, x4, x5, x6, x7, x8, x9, x10, x11, x12, x13, x14, x15, x16, x17, x18, x19, x20, x21, x22, x23]) (R := (RL14 (v10 z X V bid p3 b3))) (W := (W10 X V (boxM z n1 n2 n3 n4 ia oa ja qa ic oc jc qc) (rowI z t kk iv m1 m2 ja' qa' jc' qc') (rowJ z t kk iv m1 m2 ja' qa' jc' qc' bid p3 b3) wc)) (L := L) (o := ox) (a := ax) (w := wr) (i := 0) (w' := wr) (.pointer (some ⟨X, 11, none⟩))
          refine kk2 _ _ _ ?_ ?_ ?_
          · kernel_rfl
          · exact rfl
          · exact hw.add 0 (by decide)
        | 1, ho =>
          obtain rfl := Option.some.inj ho
          have h_0 : x0 = .pointer (some ⟨X, 11, none⟩) := hmd.rel 0 (hpre 0 (by kernel_rfl))
          subst h_0
          refine Or.inl ⟨by kernel_rfl, ?_⟩
          have kk2 := fun lx ox ax => vstep_run (P := Tryz.prog) (l := lx) (xs := [(.pointer (some ⟨X, 11, none⟩)), x1, x2, x3, x4, x5, x6, x7, x8, x9, x10, x11, x12, x13, x14, x15, x16, x17, x18, x19, x20, x21, x22, x23]) (R := (RL14 (v10 z X V bid p3 b3))) (W := (W10 X V (boxM z n1 n2 n3 n4 ia oa ja qa ic oc jc qc) (rowI z t kk iv m1 m2 ja' qa' jc' qc') (rowJ z t kk iv m1 m2 ja' qa' jc' qc' bid p3 b3) wc)) (L := L) (o := ox) (a := ax) (w := wr) (i := 1) (w' := wr) (.int .u8 z.point)
          refine kk2 _ _ _ ?_ ?_ ?_
          · (have t11 : wr.cell? ⟨X, 11, none⟩ = some (.int .u8 z.point) := cell_at hw.src; simp [putAll, execOp, go_sem, t11])
          · exact rfl
          · exact hw.add 1 (by decide)
        | 2, ho =>
          obtain rfl := Option.some.inj ho
          have h_1 : x1 = .int .u8 z.point := hmd.rel 1 (hpre 1 (by kernel_rfl))
          subst h_1
          refine Or.inl ⟨by kernel_rfl, ?_⟩
          have kk2 := fun lx ox ax => vstep_run (P := Tryz.prog) (l := lx) (xs := [x0, (.int .u8 z.point), x2, x3, x4, x5, x6, x7, x8, x9, x10, x11, x12, x13, x14, x15, x16, x17, x18, x19, x20, x21, x22, x23]) (R := (RL14 (v10 z X V bid p3 b3))) (W := (W10 X V (boxM z n1 n2 n3 n4 ia oa ja qa ic oc jc qc) (rowI z t kk iv m1 m2 ja' qa' jc' qc') (rowJ z t kk iv m1 m2 ja' qa' jc' qc' bid p3 b3) wc)) (L := L) (o := ox) (a := ax) (w := wr) (i := 2) (w' := wr) (.int .i64 z.point)
          refine kk2 _ _ _ ?_ ?_ ?_
          · simp [putAll, execOp, go_sem, w_point]
          · exact rfl
          · exact hw.add 2 (by decide)
        | 3, ho =>
          obtain rfl := Option.some.inj ho
          have h_2 : x2 = .int .i64 z.point := hmd.rel 2 (hpre 2 (by kernel_rfl))
          subst h_2
          refine Or.inl ⟨by kernel_rfl, ?_⟩
          have kk2 := fun lx ox ax => vstep_call (P := Tryz.prog) (l := lx) (xs := [x0, x1, (.int .i64 z.point), x3, x4, x5, x6, x7, x8, x9, x10, x11, x12, x13, x14, x15, x16, x17, x18, x19, x20, x21, x22, x23]) (R := (RL14 (v10 z X V bid p3 b3))) (W := (W10 X V (boxM z n1 n2 n3 n4 ia oa ja qa ic oc jc qc) (rowI z t kk iv m1 m2 ja' qa' jc' qc') (rowJ z t kk iv m1 m2 ja' qa' jc' qc' bid p3 b3) wc)) (L := L) (o := ox) (a := ax) (w := wr) (i := 3) (f := 38) (args := #[.int .i64 z.point]) (HID.out wr)
          refine kk2 _ _ _ ?_ ?_
          · kernel_rfl
          · rintro e w' ⟨rfl, hb⟩
            exact ⟨_, rfl, rfl, (hw.below hb).add 3 (by decide)⟩
        | 4, ho =>
          obtain rfl := Option.some.inj ho
          refine Or.inl ⟨by kernel_rfl, ?_⟩
          have kk2 := fun lx ox ax => vstep_run (P := Tryz.prog) (l := lx) (xs := [x0, x1, x2, x3, x4, x5, x6, x7, x8, x9, x10, x11, x12, x13, x14, x15, x16, x17, x18, x19, x20, x21, x22, x23]) (R := (RL14 (v10 z X V bid p3 b3))) (W := (W10 X V (boxM z n1 n2 n3 n4 ia oa ja qa ic oc jc qc) (rowI z t kk iv m1 m2 ja' qa' jc' qc') (rowJ z t kk iv m1 m2 ja' qa' jc' qc' bid p3 b3) wc)) (L := L) (o := ox) (a := ax) (w := wr) (i := 4) (w' := wr) (.pointer (some ⟨X, 11, none⟩))
          refine kk2 _ _ _ ?_ ?_ ?_
          · kernel_rfl
          · exact rfl
          · exact hw.add 4 (by decide)
        | 5, ho =>
          obtain rfl := Option.some.inj ho
          have h_4 : x4 = .pointer (some ⟨X, 11, none⟩) := hmd.rel 4 (hpre 4 (by kernel_rfl))
          subst h_4
          refine Or.inl ⟨by kernel_rfl, ?_⟩
          have kk2 := fun lx ox ax => vstep_run (P := Tryz.prog) (l := lx) (xs := [x0, x1, x2, x3, (.pointer (some ⟨X, 11, none⟩)), x5, x6, x7, x8, x9, x10, x11, x12, x13, x14, x15, x16, x17, x18, x19, x20, x21, x22, x23]) (R := (RL14 (v10 z X V bid p3 b3))) (W := (W10 X V (boxM z n1 n2 n3 n4 ia oa ja qa ic oc jc qc) (rowI z t kk iv m1 m2 ja' qa' jc' qc') (rowJ z t kk iv m1 m2 ja' qa' jc' qc' bid p3 b3) wc)) (L := L) (o := ox) (a := ax) (w := wr) (i := 5) (w' := wr) (.int .u8 z.point)
          refine kk2 _ _ _ ?_ ?_ ?_
          · (have t11 : wr.cell? ⟨X, 11, none⟩ = some (.int .u8 z.point) := cell_at hw.src; simp [putAll, execOp, go_sem, t11])
          · exact rfl
          · exact hw.add 5 (by decide)
        | 6, ho =>
          obtain rfl := Option.some.inj ho
          have h_5 : x5 = .int .u8 z.point := hmd.rel 5 (hpre 5 (by kernel_rfl))
          subst h_5
          refine Or.inl ⟨by kernel_rfl, ?_⟩
          have kk2 := fun lx ox ax => vstep_run (P := Tryz.prog) (l := lx) (xs := [x0, x1, x2, x3, x4, (.int .u8 z.point), x6, x7, x8, x9, x10, x11, x12, x13, x14, x15, x16, x17, x18, x19, x20, x21, x22, x23]) (R := (RL14 (v10 z X V bid p3 b3))) (W := (W10 X V (boxM z n1 n2 n3 n4 ia oa ja qa ic oc jc qc) (rowI z t kk iv m1 m2 ja' qa' jc' qc') (rowJ z t kk iv m1 m2 ja' qa' jc' qc' bid p3 b3) wc)) (L := L) (o := ox) (a := ax) (w := wr) (i := 6) (w' := wr) (.int .u8 p3)
          refine kk2 _ _ _ ?_ ?_ ?_
          · simp [putAll, execOp, go_sem, ep3, wp3]
          · exact rfl
          · exact hw.add 6 (by decide)
        | 7, ho =>
          obtain rfl := Option.some.inj ho
          have h_6 : x6 = .int .u8 p3 := hmd.rel 6 (hpre 6 (by kernel_rfl))
          subst h_6
          refine Or.inl ⟨by kernel_rfl, ?_⟩
          have kk2 := fun lx ox ax => vstep_run (P := Tryz.prog) (l := lx) (xs := [x0, x1, x2, x3, x4, x5, (.int .u8 p3), x7, x8, x9, x10, x11, x12, x13, x14, x15, x16, x17, x18, x19, x20, x21, x22, x23]) (R := (RL14 (v10 z X V bid p3 b3))) (W := (W10 X V (boxM z n1 n2 n3 n4 ia oa ja qa ic oc jc qc) (rowI z t kk iv m1 m2 ja' qa' jc' qc') (rowJ z t kk iv m1 m2 ja' qa' jc' qc' bid p3 b3) wc)) (L := L) (o := ox) (a := ax) (w := wr) (i := 7) (w' := wr) (.int .u32 p3)
          refine kk2 _ _ _ ?_ ?_ ?_
          · simp [putAll, execOp, go_sem, wp3b]
          · exact rfl
          · exact hw.add 7 (by decide)
        | 8, ho =>
          obtain rfl := Option.some.inj ho
          have h_3 : x3 = .string bid := hmd.rel 3 (hpre 3 (by kernel_rfl))
          subst h_3
          have h_7 : x7 = .int .u32 p3 := hmd.rel 7 (hpre 7 (by kernel_rfl))
          subst h_7
          refine Or.inl ⟨by kernel_rfl, ?_⟩
          have kk2 := fun lx ox ax => vstep_run (P := Tryz.prog) (l := lx) (xs := [x0, x1, x2, (.string bid), x4, x5, x6, (.int .u32 p3), x8, x9, x10, x11, x12, x13, x14, x15, x16, x17, x18, x19, x20, x21, x22, x23]) (R := (RL14 (v10 z X V bid p3 b3))) (W := (W10 X V (boxM z n1 n2 n3 n4 ia oa ja qa ic oc jc qc) (rowI z t kk iv m1 m2 ja' qa' jc' qc') (rowJ z t kk iv m1 m2 ja' qa' jc' qc' bid p3 b3) wc)) (L := L) (o := ox) (a := ax) (w := wr) (i := 8) (w' := wr) (.agg #[.string bid, .int .u32 p3])
          refine kk2 _ _ _ ?_ ?_ ?_
          · kernel_rfl
          · exact rfl
          · exact hw.add 8 (by decide)
        | 9, ho =>
          obtain rfl := Option.some.inj ho
          refine Or.inl ⟨by kernel_rfl, ?_⟩
          have kk2 := fun lx ox ax => vstep_run (P := Tryz.prog) (l := lx) (xs := [x0, x1, x2, x3, x4, x5, x6, x7, x8, x9, x10, x11, x12, x13, x14, x15, x16, x17, x18, x19, x20, x21, x22, x23]) (R := (RL14 (v10 z X V bid p3 b3))) (W := (W10 X V (boxM z n1 n2 n3 n4 ia oa ja qa ic oc jc qc) (rowI z t kk iv m1 m2 ja' qa' jc' qc') (rowJ z t kk iv m1 m2 ja' qa' jc' qc' bid p3 b3) wc)) (L := L) (o := ox) (a := ax) (w := wr) (i := 9) (w' := wr) (.pointer (some ⟨X, 12, none⟩))
          refine kk2 _ _ _ ?_ ?_ ?_
          · kernel_rfl
          · exact rfl
          · exact hw.add 9 (by decide)
        | 10, ho =>
          obtain rfl := Option.some.inj ho
          have h_9 : x9 = .pointer (some ⟨X, 12, none⟩) := hmd.rel 9 (hpre 9 (by kernel_rfl))
          subst h_9
          refine Or.inl ⟨by kernel_rfl, ?_⟩
          have kk2 := fun lx ox ax => vstep_run (P := Tryz.prog) (l := lx) (xs := [x0, x1, x2, x3, x4, x5, x6, x7, x8, (.pointer (some ⟨X, 12, none⟩)), x10, x11, x12, x13, x14, x15, x16, x17, x18, x19, x20, x21, x22, x23]) (R := (RL14 (v10 z X V bid p3 b3))) (W := (W10 X V (boxM z n1 n2 n3 n4 ia oa ja qa ic oc jc qc) (rowI z t kk iv m1 m2 ja' qa' jc' qc') (rowJ z t kk iv m1 m2 ja' qa' jc' qc' bid p3 b3) wc)) (L := L) (o := ox) (a := ax) (w := wr) (i := 10) (w' := wr) (.int .u32 z.val)
          refine kk2 _ _ _ ?_ ?_ ?_
          · (have t12 : wr.cell? ⟨X, 12, none⟩ = some (.int .u32 z.val) := cell_at hw.src; simp [putAll, execOp, go_sem, t12])
          · exact rfl
          · exact hw.add 10 (by decide)
        | 11, ho =>
          obtain rfl := Option.some.inj ho
          have h_10 : x10 = .int .u32 z.val := hmd.rel 10 (hpre 10 (by kernel_rfl))
          subst h_10
          refine Or.inl ⟨by kernel_rfl, ?_⟩
          have kk2 := fun lx ox ax => vstep_run (P := Tryz.prog) (l := lx) (xs := [x0, x1, x2, x3, x4, x5, x6, x7, x8, x9, (.int .u32 z.val), x11, x12, x13, x14, x15, x16, x17, x18, x19, x20, x21, x22, x23]) (R := (RL14 (v10 z X V bid p3 b3))) (W := (W10 X V (boxM z n1 n2 n3 n4 ia oa ja qa ic oc jc qc) (rowI z t kk iv m1 m2 ja' qa' jc' qc') (rowJ z t kk iv m1 m2 ja' qa' jc' qc' bid p3 b3) wc)) (L := L) (o := ox) (a := ax) (w := wr) (i := 11) (w' := wr) (.int .i64 z.val)
          refine kk2 _ _ _ ?_ ?_ ?_
          · simp [putAll, execOp, go_sem, w_val]
          · exact rfl
          · exact hw.add 11 (by decide)
        | 12, ho =>
          obtain rfl := Option.some.inj ho
          refine Or.inl ⟨by kernel_rfl, ?_⟩
          have kk2 := fun lx ox ax => vstep_run (P := Tryz.prog) (l := lx) (xs := [x0, x1, x2, x3, x4, x5, x6, x7, x8, x9, x10, x11, x12, x13, x14, x15, x16, x17, x18, x19, x20, x21, x22, x23]) (R := (RL14 (v10 z X V bid p3 b3))) (W := (W10 X V (boxM z n1 n2 n3 n4 ia oa ja qa ic oc jc qc) (rowI z t kk iv m1 m2 ja' qa' jc' qc') (rowJ z t kk iv m1 m2 ja' qa' jc' qc' bid p3 b3) wc)) (L := L) (o := ox) (a := ax) (w := wr) (i := 12) (w' := wr) (.pointer (some ⟨X, 7, none⟩))
          refine kk2 _ _ _ ?_ ?_ ?_
          · kernel_rfl
          · exact rfl
          · exact hw.add 12 (by decide)
        | 13, ho =>
          obtain rfl := Option.some.inj ho
          have h_12 : x12 = .pointer (some ⟨X, 7, none⟩) := hmd.rel 12 (hpre 12 (by kernel_rfl))
          subst h_12
          refine Or.inl ⟨by kernel_rfl, ?_⟩
          have kk2 := fun lx ox ax => vstep_run (P := Tryz.prog) (l := lx) (xs := [x0, x1, x2, x3, x4, x5, x6, x7, x8, x9, x10, x11, (.pointer (some ⟨X, 7, none⟩)), x13, x14, x15, x16, x17, x18, x19, x20, x21, x22, x23]) (R := (RL14 (v10 z X V bid p3 b3))) (W := (W10 X V (boxM z n1 n2 n3 n4 ia oa ja qa ic oc jc qc) (rowI z t kk iv m1 m2 ja' qa' jc' qc') (rowJ z t kk iv m1 m2 ja' qa' jc' qc' bid p3 b3) wc)) (L := L) (o := ox) (a := ax) (w := wr) (i := 13) (w' := wr) (.int .u8 z.br)
          refine kk2 _ _ _ ?_ ?_ ?_
          · (have t7 : wr.cell? ⟨X, 7, none⟩ = some (.int .u8 z.br) := cell_at hw.src; simp [putAll, execOp, go_sem, t7])
          · exact rfl
          · exact hw.add 13 (by decide)
        | 14, ho =>
          obtain rfl := Option.some.inj ho
          have h_13 : x13 = .int .u8 z.br := hmd.rel 13 (hpre 13 (by kernel_rfl))
          subst h_13
          refine Or.inl ⟨by kernel_rfl, ?_⟩
          have kk2 := fun lx ox ax => vstep_run (P := Tryz.prog) (l := lx) (xs := [x0, x1, x2, x3, x4, x5, x6, x7, x8, x9, x10, x11, x12, (.int .u8 z.br), x14, x15, x16, x17, x18, x19, x20, x21, x22, x23]) (R := (RL14 (v10 z X V bid p3 b3))) (W := (W10 X V (boxM z n1 n2 n3 n4 ia oa ja qa ic oc jc qc) (rowI z t kk iv m1 m2 ja' qa' jc' qc') (rowJ z t kk iv m1 m2 ja' qa' jc' qc' bid p3 b3) wc)) (L := L) (o := ox) (a := ax) (w := wr) (i := 14) (w' := wr) (.int .u8 b3)
          refine kk2 _ _ _ ?_ ?_ ?_
          · simp [putAll, execOp, go_sem, eb3, wb3]
          · exact rfl
          · exact hw.add 14 (by decide)
        | 15, ho =>
          obtain rfl := Option.some.inj ho
          have h_14 : x14 = .int .u8 b3 := hmd.rel 14 (hpre 14 (by kernel_rfl))
          subst h_14
          refine Or.inl ⟨by kernel_rfl, ?_⟩
          have kk2 := fun lx ox ax => vstep_run (P := Tryz.prog) (l := lx) (xs := [x0, x1, x2, x3, x4, x5, x6, x7, x8, x9, x10, x11, x12, x13, (.int .u8 b3), x15, x16, x17, x18, x19, x20, x21, x22, x23]) (R := (RL14 (v10 z X V bid p3 b3))) (W := (W10 X V (boxM z n1 n2 n3 n4 ia oa ja qa ic oc jc qc) (rowI z t kk iv m1 m2 ja' qa' jc' qc') (rowJ z t kk iv m1 m2 ja' qa' jc' qc' bid p3 b3) wc)) (L := L) (o := ox) (a := ax) (w := wr) (i := 15) (w' := wr) (.int .i64 b3)
          refine kk2 _ _ _ ?_ ?_ ?_
          · simp [putAll, execOp, go_sem, wb3b]
          · exact rfl
          · exact hw.add 15 (by decide)
        | 16, ho =>
          obtain rfl := Option.some.inj ho
          refine Or.inl ⟨by kernel_rfl, ?_⟩
          have kk2 := fun lx ox ax => vstep_run (P := Tryz.prog) (l := lx) (xs := [x0, x1, x2, x3, x4, x5, x6, x7, x8, x9, x10, x11, x12, x13, x14, x15, x16, x17, x18, x19, x20, x21, x22, x23]) (R := (RL14 (v10 z X V bid p3 b3))) (W := (W10 X V (boxM z n1 n2 n3 n4 ia oa ja qa ic oc jc qc) (rowI z t kk iv m1 m2 ja' qa' jc' qc') (rowJ z t kk iv m1 m2 ja' qa' jc' qc' bid p3 b3) wc)) (L := L) (o := ox) (a := ax) (w := wr) (i := 16) (w' := wr) (.pointer (some ⟨X, 8, none⟩))
          refine kk2 _ _ _ ?_ ?_ ?_
          · kernel_rfl
          · exact rfl
          · exact hw.add 16 (by decide)
        | 17, ho =>
          obtain rfl := Option.some.inj ho
          have h_16 : x16 = .pointer (some ⟨X, 8, none⟩) := hmd.rel 16 (hpre 16 (by kernel_rfl))
          subst h_16
          refine Or.inl ⟨by kernel_rfl, ?_⟩
          have kk2 := fun lx ox ax => vstep_run (P := Tryz.prog) (l := lx) (xs := [x0, x1, x2, x3, x4, x5, x6, x7, x8, x9, x10, x11, x12, x13, x14, x15, (.pointer (some ⟨X, 8, none⟩)), x17, x18, x19, x20, x21, x22, x23]) (R := (RL14 (v10 z X V bid p3 b3))) (W := (W10 X V (boxM z n1 n2 n3 n4 ia oa ja qa ic oc jc qc) (rowI z t kk iv m1 m2 ja' qa' jc' qc') (rowJ z t kk iv m1 m2 ja' qa' jc' qc' bid p3 b3) wc)) (L := L) (o := ox) (a := ax) (w := wr) (i := 17) (w' := wr) (.agg #[.int .u16 z.tag, .int .u16 z.delay, .int .u32 z.height])
          refine kk2 _ _ _ ?_ ?_ ?_
          · (have t8 : wr.cell? ⟨X, 8, none⟩ = some (.int .u16 z.tag) := cell_at hw.src; have t9 : wr.cell? ⟨X, 9, none⟩ = some (.int .u16 z.delay) := cell_at hw.src; have t10 : wr.cell? ⟨X, 10, none⟩ = some (.int .u32 z.height) := cell_at hw.src; simp [putAll, execOp, go_sem, t8, t9, t10])
          · exact rfl
          · exact hw.add 17 (by decide)
        | 18, ho =>
          obtain rfl := Option.some.inj ho
          refine Or.inl ⟨by kernel_rfl, ?_⟩
          have kk2 := fun lx ox ax => vstep_run (P := Tryz.prog) (l := lx) (xs := [x0, x1, x2, x3, x4, x5, x6, x7, x8, x9, x10, x11, x12, x13, x14, x15, x16, x17, x18, x19, x20, x21, x22, x23]) (R := (RL14 (v10 z X V bid p3 b3))) (W := (W10 X V (boxM z n1 n2 n3 n4 ia oa ja qa ic oc jc qc) (rowI z t kk iv m1 m2 ja' qa' jc' qc') (rowJ z t kk iv m1 m2 ja' qa' jc' qc' bid p3 b3) wc)) (L := L) (o := ox) (a := ax) (w := wr) (i := 18) (w' := wr) (.pointer (some ⟨X, 15, none⟩))
          refine kk2 _ _ _ ?_ ?_ ?_
          · kernel_rfl
          · exact rfl
          · exact hw.add 18 (by decide)
        | 19, ho =>
          obtain rfl := Option.some.inj ho
          have h_18 : x18 = .pointer (some ⟨X, 15, none⟩) := hmd.rel 18 (hpre 18 (by kernel_rfl))
          subst h_18
          refine Or.inl ⟨by kernel_rfl, ?_⟩
          have kk2 := fun lx ox ax => vstep_run (P := Tryz.prog) (l := lx) (xs := [x0, x1, x2, x3, x4, x5, x6, x7, x8, x9, x10, x11, x12, x13, x14, x15, x16, x17, (.pointer (some ⟨X, 15, none⟩)), x19, x20, x21, x22, x23]) (R := (RL14 (v10 z X V bid p3 b3))) (W := (W10 X V (boxM z n1 n2 n3 n4 ia oa ja qa ic oc jc qc) (rowI z t kk iv m1 m2 ja' qa' jc' qc') (rowJ z t kk iv m1 m2 ja' qa' jc' qc' bid p3 b3) wc)) (L := L) (o := ox) (a := ax) (w := wr) (i := 19) (w' := wr) (.int .u16 z.dead)
          refine kk2 _ _ _ ?_ ?_ ?_
          · (have t15 : wr.cell? ⟨X, 15, none⟩ = some (.int .u16 z.dead) := cell_at hw.src; simp [putAll, execOp, go_sem, t15])
          · exact rfl
          · exact hw.add 19 (by decide)
        | 20, ho =>
          obtain rfl := Option.some.inj ho
          have h_19 : x19 = .int .u16 z.dead := hmd.rel 19 (hpre 19 (by kernel_rfl))
          subst h_19
          refine Or.inl ⟨by kernel_rfl, ?_⟩
          have kk2 := fun lx ox ax => vstep_run (P := Tryz.prog) (l := lx) (xs := [x0, x1, x2, x3, x4, x5, x6, x7, x8, x9, x10, x11, x12, x13, x14, x15, x16, x17, x18, (.int .u16 z.dead), x20, x21, x22, x23]) (R := (RL14 (v10 z X V bid p3 b3))) (W := (W10 X V (boxM z n1 n2 n3 n4 ia oa ja qa ic oc jc qc) (rowI z t kk iv m1 m2 ja' qa' jc' qc') (rowJ z t kk iv m1 m2 ja' qa' jc' qc' bid p3 b3) wc)) (L := L) (o := ox) (a := ax) (w := wr) (i := 20) (w' := wr) (.int .i64 z.dead)
          refine kk2 _ _ _ ?_ ?_ ?_
          · simp [putAll, execOp, go_sem, w_dead]
          · exact rfl
          · exact hw.add 20 (by decide)
        | 21, ho =>
          obtain rfl := Option.some.inj ho
          have h_8 : x8 = .agg #[.string bid, .int .u32 p3] := hmd.rel 8 (hpre 8 (by kernel_rfl))
          subst h_8
          have h_11 : x11 = .int .i64 z.val := hmd.rel 11 (hpre 11 (by kernel_rfl))
          subst h_11
          have h_15 : x15 = .int .i64 b3 := hmd.rel 15 (hpre 15 (by kernel_rfl))
          subst h_15
          have h_17 : x17 = .agg #[.int .u16 z.tag, .int .u16 z.delay, .int .u32 z.height] := hmd.rel 17 (hpre 17 (by kernel_rfl))
          subst h_17
          have h_20 : x20 = .int .i64 z.dead := hmd.rel 20 (hpre 20 (by kernel_rfl))
          subst h_20
          refine Or.inl ⟨by kernel_rfl, ?_⟩
          have kk2 := fun lx ox ax => vstep_run (P := Tryz.prog) (l := lx) (xs := [x0, x1, x2, x3, x4, x5, x6, x7, (.agg #[.string bid, .int .u32 p3]), x9, x10, (.int .i64 z.val), x12, x13, x14, (.int .i64 b3), x16, (.agg #[.int .u16 z.tag, .int .u16 z.delay, .int .u32 z.height]), x18, x19, (.int .i64 z.dead), x21, x22, x23]) (R := (RL14 (v10 z X V bid p3 b3))) (W := (W10 X V (boxM z n1 n2 n3 n4 ia oa ja qa ic oc jc qc) (rowI z t kk iv m1 m2 ja' qa' jc' qc') (rowJ z t kk iv m1 m2 ja' qa' jc' qc' bid p3 b3) wc)) (L := L) (o := ox) (a := ax) (w := wr) (i := 21) (w' := wr) (.agg #[.string bid, .int .u32 p3, .int .i64 z.val, .int .i64 b3, .int .u16 z.tag, .int .u16 z.delay, .int .u32 z.height, .int .i64 z.dead])
          refine kk2 _ _ _ ?_ ?_ ?_
          · kernel_rfl
          · exact rfl
          · exact hw.add 21 (by decide)
        | 22, ho =>
          obtain rfl := Option.some.inj ho
          refine Or.inl ⟨by kernel_rfl, ?_⟩
          have kk2 := fun lx ox ax => vstep_run (P := Tryz.prog) (l := lx) (xs := [x0, x1, x2, x3, x4, x5, x6, x7, x8, x9, x10, x11, x12, x13, x14, x15, x16, x17, x18, x19, x20, x21, x22, x23]) (R := (RL14 (v10 z X V bid p3 b3))) (W := (W10 X V (boxM z n1 n2 n3 n4 ia oa ja qa ic oc jc qc) (rowI z t kk iv m1 m2 ja' qa' jc' qc') (rowJ z t kk iv m1 m2 ja' qa' jc' qc' bid p3 b3) wc)) (L := L) (o := ox) (a := ax) (w := wr) (i := 22) (w' := wr) (.pointer (some ⟨V, 7, none⟩))
          refine kk2 _ _ _ ?_ ?_ ?_
          · kernel_rfl
          · exact rfl
          · exact hw.add 22 (by decide)
        | 23, ho =>
          obtain rfl := Option.some.inj ho
          have h_21 : x21 = .agg #[.string bid, .int .u32 p3, .int .i64 z.val, .int .i64 b3, .int .u16 z.tag, .int .u16 z.delay, .int .u32 z.height, .int .i64 z.dead] := hmd.rel 21 (hpre 21 (by kernel_rfl))
          subst h_21
          have h_22 : x22 = .pointer (some ⟨V, 7, none⟩) := hmd.rel 22 (hpre 22 (by kernel_rfl))
          subst h_22
          refine Or.inl ⟨by kernel_rfl, ?_⟩
          have hold := hw.old hni
          have g7 : wr.cell? ⟨V, 7, none⟩ = some (.string ⟨#[]⟩) := cell_at hold
          have f7 : wr.frozen? ⟨V, 7, none⟩ = false := free_at hold
          have g8 : wr.cell? ⟨V, 8, none⟩ = some (.int .u32 0) := cell_at hold
          have f8 : wr.frozen? ⟨V, 8, none⟩ = false := free_at hold
          have g9 : wr.cell? ⟨V, 9, none⟩ = some (.int .i64 0) := cell_at hold
          have f9 : wr.frozen? ⟨V, 9, none⟩ = false := free_at hold
          have g10 : wr.cell? ⟨V, 10, none⟩ = some (.int .i64 0) := cell_at hold
          have f10 : wr.frozen? ⟨V, 10, none⟩ = false := free_at hold
          have g11 : wr.cell? ⟨V, 11, none⟩ = some (.int .u16 0) := cell_at hold
          have f11 : wr.frozen? ⟨V, 11, none⟩ = false := free_at hold
          have g12 : wr.cell? ⟨V, 12, none⟩ = some (.int .u16 0) := cell_at hold
          have f12 : wr.frozen? ⟨V, 12, none⟩ = false := free_at hold
          have g13 : wr.cell? ⟨V, 13, none⟩ = some (.int .u32 0) := cell_at hold
          have f13 : wr.frozen? ⟨V, 13, none⟩ = false := free_at hold
          have g14 : wr.cell? ⟨V, 14, none⟩ = some (.int .i64 0) := cell_at hold
          have f14 : wr.frozen? ⟨V, 14, none⟩ = false := free_at hold
          have kk2 := fun lx ox ax => vstep_skip (P := Tryz.prog) (l := lx) (xs := [x0, x1, x2, x3, x4, x5, x6, x7, x8, x9, x10, x11, x12, x13, x14, x15, x16, x17, x18, x19, x20, (.agg #[.string bid, .int .u32 p3, .int .i64 z.val, .int .i64 b3, .int .u16 z.tag, .int .u16 z.delay, .int .u32 z.height, .int .i64 z.dead]), (.pointer (some ⟨V, 7, none⟩)), x23]) (R := (RL14 (v10 z X V bid p3 b3))) (W := (W10 X V (boxM z n1 n2 n3 n4 ia oa ja qa ic oc jc qc) (rowI z t kk iv m1 m2 ja' qa' jc' qc') (rowJ z t kk iv m1 m2 ja' qa' jc' qc' bid p3 b3) wc)) (L := L) (o := ox) (a := ax) (w := wr) (i := 23) (w' := stores wr V [(7, .string bid), (8, .int .u32 p3), (9, .int .i64 z.val), (10, .int .i64 b3), (11, .int .u16 z.tag), (12, .int .u16 z.delay), (13, .int .u32 z.height), (14, .int .i64 z.dead)])
          refine kk2 _ _ _ ?_ ?_ ?_
          · simp [putAll, execOp, go_sem, stores, f7, g7, f8, g8, f9, g9, f10, g10, f11, g11, f12, g12, f13, g13, f14, g14]
          · exact rfl
          · exact hw.store hni [(7, .string bid), (8, .int .u32 p3), (9, .int .i64 z.val), (10, .int .i64 b3), (11, .int .u16 z.tag), (12, .int .u16 z.delay), (13, .int .u32 z.height), (14, .int .i64 z.dead)] (by kernel_rfl)
        | q + 24, ho => exact absurd (List.getElem?_eq_some_iff.1 ho).1 (by simp)
      · intro xs wf hmd hw
        obtain ⟨x0, x1, x2, x3, x4, x5, x6, x7, x8, x9, x10, x11, x12, x13, x14, x15, x16, x17, x18, x19, x20, x21, x22, x23, rfl⟩ : ∃ x0 x1 x2 x3 x4 x5 x6 x7 x8 x9 x10 x11 x12 x13 x14 x15 x16 x17 x18 x19 x20 x21 x22 x23, xs = [x0, x1, x2, x3, x4, x5, x6, x7, x8, x9, x10, x11, x12, x13, x14, x15, x16, x17, x18, x19, x20, x21, x22, x23] := by match xs, hmd.len with | [x0, x1, x2, x3, x4, x5, x6, x7, x8, x9, x10, x11, x12, x13, x14, x15, x16, x17, x18, x19, x20, x21, x22, x23], _ => exact ⟨_, _, _, _, _, _, _, _, _, _, _, _, _, _, _, _, _, _, _, _, _, _, _, _, rfl⟩
        obtain rfl : x0 = .pointer (some ⟨X, 11, none⟩) := hmd.rel 0 (by decide)
        obtain rfl : x1 = .int .u8 z.point := hmd.rel 1 (by decide)
        obtain rfl : x2 = .int .i64 z.point := hmd.rel 2 (by decide)
        obtain rfl : x3 = .string bid := hmd.rel 3 (by decide)
        obtain rfl : x4 = .pointer (some ⟨X, 11, none⟩) := hmd.rel 4 (by decide)
        obtain rfl : x5 = .int .u8 z.point := hmd.rel 5 (by decide)
        obtain rfl : x6 = .int .u8 p3 := hmd.rel 6 (by decide)
        obtain rfl : x7 = .int .u32 p3 := hmd.rel 7 (by decide)
        obtain rfl : x8 = .agg #[.string bid, .int .u32 p3] := hmd.rel 8 (by decide)
        obtain rfl : x9 = .pointer (some ⟨X, 12, none⟩) := hmd.rel 9 (by decide)
        obtain rfl : x10 = .int .u32 z.val := hmd.rel 10 (by decide)
        obtain rfl : x11 = .int .i64 z.val := hmd.rel 11 (by decide)
        obtain rfl : x12 = .pointer (some ⟨X, 7, none⟩) := hmd.rel 12 (by decide)
        obtain rfl : x13 = .int .u8 z.br := hmd.rel 13 (by decide)
        obtain rfl : x14 = .int .u8 b3 := hmd.rel 14 (by decide)
        obtain rfl : x15 = .int .i64 b3 := hmd.rel 15 (by decide)
        obtain rfl : x16 = .pointer (some ⟨X, 8, none⟩) := hmd.rel 16 (by decide)
        obtain rfl : x17 = .agg #[.int .u16 z.tag, .int .u16 z.delay, .int .u32 z.height] := hmd.rel 17 (by decide)
        obtain rfl : x18 = .pointer (some ⟨X, 15, none⟩) := hmd.rel 18 (by decide)
        obtain rfl : x19 = .int .u16 z.dead := hmd.rel 19 (by decide)
        obtain rfl : x20 = .int .i64 z.dead := hmd.rel 20 (by decide)
        obtain rfl : x21 = .agg #[.string bid, .int .u32 p3, .int .i64 z.val, .int .i64 b3, .int .u16 z.tag, .int .u16 z.delay, .int .u32 z.height, .int .i64 z.dead] := hmd.rel 21 (by decide)
        obtain rfl : x22 = .pointer (some ⟨V, 7, none⟩) := hmd.rel 22 (by decide)
        obtain rfl : x23 = undef := hmd.rel 23 (by decide)
        generalize hF : putAll _ _ _ = F
        obtain ⟨u0, u3, u5, u6, u7, u8, u9, u10, u11, u12, u13, u14, u15, u16, u17, u18, u19, u20, u21, u22, u23, u24, u25, u26, u27, u28, u29, u30, u31, u32, u33, u34, u35, u36, u37, u38, u39, u40, u41, u42, u43, u44, u45, u46, u47, u48, u49, u50, u51, u52, u53, u54, u55, u56, u57, u58, u59, u60, u61, u62, u63, u64, u65, u66, u67, u68, u69, u70, u71, u72, u73, u74, u75, u76, u77, u78, u79, u80, u81, u82, u83, u84, u85, u86, u87, u88, u89, u90, u91, u92, u93, u94, u95, rfl⟩ : ∃ u0 u3 u5 u6 u7 u8 u9 u10 u11 u12 u13 u14 u15 u16 u17 u18 u19 u20 u21 u22 u23 u24 u25 u26 u27 u28 u29 u30 u31 u32 u33 u34 u35 u36 u37 u38 u39 u40 u41 u42 u43 u44 u45 u46 u47 u48 u49 u50 u51 u52 u53 u54 u55 u56 u57 u58 u59 u60 u61 u62 u63 u64 u65 u66 u67 u68 u69 u70 u71 u72 u73 u74 u75 u76 u77 u78 u79 u80 u81 u82 u83 u84 u85 u86 u87 u88 u89 u90 u91 u92 u93 u94 u95 : Value, F = ({ tmps := #[u0, .pointer (some ⟨X, 0, none⟩), .pointer (some ⟨X + 1, 0, none⟩), u3, .pointer (some ⟨V, 0, none⟩), u5, u6, u7, u8, u9, u10, u11, u12, u13, u14, u15, u16, u17, u18, u19, u20, u21, u22, u23, u24, u25, u26, u27, u28, u29, u30, u31, u32, u33, u34, u35, u36, u37, u38, u39, u40, u41, u42, u43, u44, u45, u46, u47, u48, u49, u50, u51, u52, u53, u54, u55, u56, u57, u58, u59, u60, u61, u62, u63, u64, u65, u66, u67, u68, u69, u70, u71, u72, u73, u74, u75, u76, u77, u78, u79, u80, u81, u82, u83, u84, u85, u86, u87, u88, u89, u90, u91, u92, u93, u94, u95], defers := [] } : Act) := ⟨F.tmps.getD 0 undef, F.tmps.getD 3 undef, F.tmps.getD 5 undef, F.tmps.getD 6 undef, F.tmps.getD 7 undef, F.tmps.getD 8 undef, F.tmps.getD 9 undef, F.tmps.getD 10 undef, F.tmps.getD 11 undef, F.tmps.getD 12 undef, F.tmps.getD 13 undef, F.tmps.getD 14 undef, F.tmps.getD 15 undef, F.tmps.getD 16 undef, F.tmps.getD 17 undef, F.tmps.getD 18 undef, F.tmps.getD 19 undef, F.tmps.getD 20 undef, F.tmps.getD 21 undef, F.tmps.getD 22 undef, F.tmps.getD 23 undef, F.tmps.getD 24 undef, F.tmps.getD 25 undef, F.tmps.getD 26 undef, F.tmps.getD 27 undef, F.tmps.getD 28 undef, F.tmps.getD 29 undef, F.tmps.getD 30 undef, F.tmps.getD 31 undef, F.tmps.getD 32 undef, F.tmps.getD 33 undef, F.tmps.getD 34 undef, F.tmps.getD 35 undef, F.tmps.getD 36 undef, F.tmps.getD 37 undef, F.tmps.getD 38 undef, F.tmps.getD 39 undef, F.tmps.getD 40 undef, F.tmps.getD 41 undef, F.tmps.getD 42 undef, F.tmps.getD 43 undef, F.tmps.getD 44 undef, F.tmps.getD 45 undef, F.tmps.getD 46 undef, F.tmps.getD 47 undef, F.tmps.getD 48 undef, F.tmps.getD 49 undef, F.tmps.getD 50 undef, F.tmps.getD 51 undef, F.tmps.getD 52 undef, F.tmps.getD 53 undef, F.tmps.getD 54 undef, F.tmps.getD 55 undef, F.tmps.getD 56 undef, F.tmps.getD 57 undef, F.tmps.getD 58 undef, F.tmps.getD 59 undef, F.tmps.getD 60 undef, F.tmps.getD 61 undef, F.tmps.getD 62 undef, F.tmps.getD 63 undef, F.tmps.getD 64 undef, F.tmps.getD 65 undef, F.tmps.getD 66 undef, F.tmps.getD 67 undef, F.tmps.getD 68 undef, F.tmps.getD 69 undef, F.tmps.getD 70 undef, F.tmps.getD 71 undef, F.tmps.getD 72 undef, F.tmps.getD 73 undef, F.tmps.getD 74 undef, F.tmps.getD 75 undef, F.tmps.getD 76 undef, F.tmps.getD 77 undef, F.tmps.getD 78 undef, F.tmps.getD 79 undef, F.tmps.getD 80 undef, F.tmps.getD 81 undef, F.tmps.getD 82 undef, F.tmps.getD 83 undef, F.tmps.getD 84 undef, F.tmps.getD 85 undef, F.tmps.getD 86 undef, F.tmps.getD 87 undef, F.tmps.getD 88 undef, F.tmps.getD 89 undef, F.tmps.getD 90 undef, F.tmps.getD 91 undef, F.tmps.getD 92 undef, F.tmps.getD 93 undef, F.tmps.getD 94 undef, F.tmps.getD 95 undef, by rw [← hF]; kernel_rfl⟩
        clear hF hmd
        have HWE := hid hw
        clear hw ep3 wp3 wp3b eb3 wb3 wb3b w_point w_val w_dead
        have hzh := HK.out.height
        obtain ⟨hm, hhm⟩ : ∃ k, k = z.height % 1000001 := ⟨_, rfl⟩
        have ehm : (z.height : Int).tmod 1000001 = (hm : Int) := by rw [Int.tmod_eq_emod_of_nonneg (by omega)]; omega
        have whm : IntKind.u32.wrap (hm : Int) = (hm : Int) := by rw [IntKind.wrap_u32]; omega
        have HHM := hid (show hm < 4294967296 from by omega)
        clear hhm hzh
        have HV := hid (show wf.heap[V]? = some (.cells #[.int .i64 kk, .int .i64 z.num, .int .u32 t.ver, .slice ja' m1 jc', .slice qa' m2 qc', .int .u32 t.lock, .int .i64 iv, .string bid, .int .u32 p3, .int .i64 z.val, .int .i64 b3, .int .u16 z.tag, .int .u16 z.delay, .int .u32 z.height, .int .i64 z.dead, .int .i64 z.budget, .int .i64 z.start, .int .i64 z.fee] 35 (0, 0)) from HWE.out.new)
        have c13 : wf.cell? ⟨V, 13, none⟩ = some (.int .u32 z.height) := cell_at HV.out
        have f13 : wf.frozen? ⟨V, 13, none⟩ = false := free_at HV.out
        have HV := hid (show (wf.setCell ⟨V, 13, none⟩ (.int .u32 hm)).heap[V]? = some (.cells #[.int .i64 kk, .int .i64 z.num, .int .u32 t.ver, .slice ja' m1 jc', .slice qa' m2 qc', .int .u32 t.lock, .int .i64 iv, .string bid, .int .u32 p3, .int .i64 z.val, .int .i64 b3, .int .u16 z.tag, .int .u16 z.delay, .int .u32 hm, .int .i64 z.dead, .int .i64 z.budget, .int .i64 z.start, .int .i64 z.fee] 35 (0, 0)) from heap_setCell_at (j := 13) (u := .int .u32 hm) HV.out)
        have HFV := hid (show Fr [V] wr (wf.setCell ⟨V, 13, none⟩ (.int .u32 hm)) from (HFW.out.trans' HWE.out.fr).trans' (Fr.setCell _ _ _ (by simp)))
        have HZ1 := hid ((HFV.out.block (X + 1) (Array.getElem?_eq_some_iff.1 HZ1.out).1 (by have := HVX.out; simp; omega)).trans HZ1.out)
        go_upto_region 12 with fail
        generalize wf.setCell ⟨V, 13, none⟩ (.int .u32 hm) = wg at *
        clear c13 f13 ehm whm
        have hown := HOWN.out wg (fun b h1 h2 h3 => HFV.out.block b h3 (by simpa using h1))
        have hok : PRec.Ok ⟨kk, z.num, t, iv, bid, p3, z.val, b3, z.tag, z.delay, hm, z.dead, z.budget, z.start, z.fee⟩ := ⟨HKR.out, by have := HK.out.num; exact ⟨by dsimp only; omega, by dsimp only; omega⟩, hown.ver, hown.lock, HIV.out, by show bid.size ≤ _; rw [HBID.out]; decide, by have := HB3.out; show p3 < 4294967296; omega, by have := HK.out.val; exact ⟨by dsimp only; omega, by dsimp only; omega⟩, by have := HB3.out; exact ⟨by dsimp only; omega, by dsimp only; omega⟩, HK.out.tag, HK.out.delay, HHM.out, by have := HK.out.dead; exact ⟨by dsimp only; omega, by dsimp only; omega⟩, by have := HK.out.budget; exact ⟨by dsimp only; omega, by dsimp only; omega⟩, by have := HK.out.start; exact ⟨by dsimp only; omega, by dsimp only; omega⟩, by have := HK.out.fee; exact ⟨by dsimp only; omega, by dsimp only; omega⟩⟩
        have HOK := hid hok
        have HCALL := hid (rown_any (.slice ja' m1 jc') (.slice qa' m2 qc') ⟨kk, z.num, t, iv, bid, p3, z.val, b3, z.tag, z.delay, hm, z.dead, z.budget, z.start, z.fee⟩ wg hown.at_.1 hown.at_.2 hok)
        clear hown hok
        go_wp2_with (refine wpList_load_row rfl 35 (.tmp 4) rfl V rfl 35 _ (0, 0) _ HV.out Tryz.underlying35 rfl (by kernel_rfl) ?_)
        refine HCALL.out.mono ?_
        rintro e wh ⟨v, rfl, htold, hb⟩
        have hsh := htold _ wg (HOWN.out wg (fun b h1 h2 h3 => HFV.out.block b h3 (by simpa using h1)))
        obtain ⟨ra, rb, rfl, hto, hrk⟩ := hsh
        have hra := hto.at_.1
        have hrb := hto.at_.2
        clear hto
        obtain ⟨a1, a2, rfl, -, -⟩ := hra.shape
        obtain ⟨a3, a4, rfl, -, -⟩ := hrb.shape
        have HOU := hid (show (ownR ⟨kk, z.num, t, iv, bid, p3, z.val, b3, z.tag, z.delay, hm, z.dead, z.budget, z.start, z.fee⟩).tx.outs.length ≤ 1000 from Nat.le_trans (ownR_outs _) (by show t.outs.length ≤ 1000; rw [← HM2.out]; have := HF8.out; omega))
        generalize ownR ⟨kk, z.num, t, iv, bid, p3, z.val, b3, z.tag, z.delay, hm, z.dead, z.budget, z.start, z.fee⟩ = ro at *
        clear hra hrb hrk HCALL
        have HTOLD := hid htold
        have HZ1 := hid ((hb.block (X + 1) (Array.getElem?_eq_some_iff.1 HZ1.out).1).trans HZ1.out)
        have HFV := hid (HFV.out.trans' (Fr.of_below hb [V]))
        clear htold hb
        have HFX := hid ((HFV.out.mono (F' := [V, X + 1]) (fun k hk => .inl (by simp at hk; simp [hk]))).trans' (Fr.row (F := [V, X + 1]) wh (X + 1) #[.int .i64 ro.kind, .int .i64 ro.num, .int .u32 ro.tx.ver, .slice a1 ro.tx.ins.length a2, .slice a3 ro.tx.outs.length a4, .int .u32 ro.tx.lock, .int .i64 ro.index, .string ro.id, .int .u32 ro.idx, .int .i64 ro.val, .int .i64 ro.br, .int .u16 ro.tag, .int .u16 ro.delay, .int .u32 ro.height, .int .i64 ro.dead, .int .i64 ro.budget, .int .i64 ro.start, .int .i64 ro.fee] (by simp)))
        go_wp2_with (refine wpList_store_row rfl 35 (.tmp 2) (.tmp 95) rfl (X + 1) #[.int .i64 ro.kind, .int .i64 ro.num, .int .u32 ro.tx.ver, .slice a1 ro.tx.ins.length a2, .slice a3 ro.tx.outs.length a4, .int .u32 ro.tx.lock, .int .i64 ro.index, .string ro.id, .int .u32 ro.idx, .int .i64 ro.val, .int .i64 ro.br, .int .u16 ro.tag, .int .u16 ro.delay, .int .u32 ro.height, .int .i64 ro.dead, .int .i64 ro.budget, .int .i64 ro.start, .int .i64 ro.fee] rfl rfl 35 _ HZ1.out (by kernel_rfl) rfl (by kernel_rfl) ?_)
        refine bodyPost_ret (v := .agg #[.int .i64 ro.kind, .int .i64 ro.num, .int .u32 ro.tx.ver, .slice a1 ro.tx.ins.length a2, .slice a3 ro.tx.outs.length a4, .int .u32 ro.tx.lock, .int .i64 ro.index, .string ro.id, .int .u32 ro.idx, .int .i64 ro.val, .int .i64 ro.br, .int .u16 ro.tag, .int .u16 ro.delay, .int .u32 ro.height, .int .i64 ro.dead, .int .i64 ro.budget, .int .i64 ro.start, .int .i64 ro.fee]) (results_cell1 (P := Tryz.prog) (p := 2) (ty := 35) Tryz.results9 _ _ (X + 1) 35 #[.int .i64 ro.kind, .int .i64 ro.num, .int .u32 ro.tx.ver, .slice a1 ro.tx.ins.length a2, .slice a3 ro.tx.outs.length a4, .int .u32 ro.tx.lock, .int .i64 ro.index, .string ro.id, .int .u32 ro.idx, .int .i64 ro.val, .int .i64 ro.br, .int .u16 ro.tag, .int .u16 ro.delay, .int .u32 ro.height, .int .i64 ro.dead, .int .i64 ro.budget, .int .i64 ro.start, .int .i64 ro.fee] (0, 0) _ rfl (setRow_heap _ (X + 1) _ _ _ _ HZ1.out) Tryz.underlying35 rfl (by kernel_rfl)) rfl ?_
        have hfin := HOWN.out (wh.setRow (X + 1) #[.int .i64 ro.kind, .int .i64 ro.num, .int .u32 ro.tx.ver, .slice a1 ro.tx.ins.length a2, .slice a3 ro.tx.outs.length a4, .int .u32 ro.tx.lock, .int .i64 ro.index, .string ro.id, .int .u32 ro.idx, .int .i64 ro.val, .int .i64 ro.br, .int .u16 ro.tag, .int .u16 ro.delay, .int .u32 ro.height, .int .i64 ro.dead, .int .i64 ro.budget, .int .i64 ro.start, .int .i64 ro.fee]) (fun b h1 h2 h3 => HFX.out.block b h3 (by have := HVX.out; simp; omega))
        exact ⟨_, ro, rfl, (HTOLD.out _ _ hfin).base HW0.out, HOU.out, HB.out.trans (HFX.out.below HB.out.size (by intro k hk; have := HVX.out; have := HX.out; simp at hk; omega))⟩
end Go.Proofs.YtaooibocknemkaaGreat
