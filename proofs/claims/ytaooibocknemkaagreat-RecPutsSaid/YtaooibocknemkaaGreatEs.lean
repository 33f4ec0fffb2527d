/-
  rec.parse. Conditions: the text is no longer than a text may be.
-/
import Derived.Test.YtaooibocknemkaaGreatQ10RecPuts
import Derived.Test.YtaooibocknemkaaGreatQ11RecPuts
import Derived.Test.YtaooibocknemkaaGreatQ7RecPuts
import Derived.Test.YtaooibocknemkaaGreatEj
namespace Go.Proofs.YtaooibocknemkaaGreat
open Go.RowKit Go.BigFrame
open Go.Lib (hid)
set_option linter.unusedVariables false
set_option linter.unusedSimpArgs false
/-- What stands once a payload has been read: the reader, the record's block, and the result's. -/
structure Prsd (X Y R : Nat) (xf : RdS) (r : PRec) (w0 w : World) : Prop where
  ex : ∃ (B : Nat) (va vb : Value), w.heap[R]? = some (.cells #[.int .i64 r.kind, .int .i64 r.num, .int .u32 r.tx.ver, va, vb, .int .u32 r.tx.lock, .int .i64 r.index, .string r.id, .int .u32 r.idx, .int .i64 r.val, .int .i64 r.br, .int .u16 r.tag, .int .u16 r.delay, .int .u32 r.height, .int .i64 r.dead, .int .i64 r.budget, .int .i64 r.start, .int .i64 r.fee] 35 (0, 0)) ∧ TxOwn B w (.agg #[.int .u32 r.tx.ver, va, vb, .int .u32 r.tx.lock]) r.tx ∧ X < B ∧ Y < B ∧ R < B
  rd : PdAt Y xf w
  x : w.heap[X]? = some (.cells #[.int .i64 0, .int .i64 0, .int .u32 0, .slice none 0 0, .slice none 0 0, .int .u32 0, .int .i64 0, .string ⟨#[]⟩, .int .u32 0, .int .i64 0, .int .i64 0, .int .u16 0, .int .u16 0, .int .u32 0, .int .i64 0, .int .i64 0, .int .i64 0, .int .i64 0] 35 (0, 0))
  fr : Fr [Y, R] w0 w
  outs : r.tx.outs.length ≤ 256
theorem TxOwn.at_ {B : Nat} {w : World} {t : PTx} {va vb : Value} (h : TxOwn B w (.agg #[.int .u32 t.ver, va, vb, .int .u32 t.lock]) t) : SlAt rpIn w va t.ins ∧ SlAt rpOut w vb t.outs := by
  obtain ⟨a, b, e, h1, h2, -⟩ := h.tx
  obtain ⟨e1, e2⟩ : va = a ∧ vb = b := by simpa using e
  exact ⟨e1 ▸ h1, e2 ▸ h2⟩
theorem txR_le (x : RdS) : (txR x).1.t.length ≤ x.t.length := by
  unfold txR
  split
  · exact Nat.le_refl _
  · exact Nat.le_trans (takeR_le _ _) (takeR_le _ x)
/-- A record whose transaction lies in blocks from a place on. -/
def RecOwn (base : Nat) (w : World) (v : Value) (r : PRec) : Prop := ∃ va vb, v = .agg #[.int .i64 r.kind, .int .i64 r.num, .int .u32 r.tx.ver, va, vb, .int .u32 r.tx.lock, .int .i64 r.index, .string r.id, .int .u32 r.idx, .int .i64 r.val, .int .i64 r.br, .int .u16 r.tag, .int .u16 r.delay, .int .u32 r.height, .int .i64 r.dead, .int .i64 r.budget, .int .i64 r.start, .int .i64 r.fee] ∧ TxOwn base w (.agg #[.int .u32 r.tx.ver, va, vb, .int .u32 r.tx.lock]) r.tx ∧ r.Ok
theorem RecOwn.at_ {base : Nat} {w : World} {v : Value} {r : PRec} (h : RecOwn base w v r) : RecAt w v r := by
  obtain ⟨va, vb, rfl, ho, hk⟩ := h
  exact ⟨va, vb, rfl, ho.at_.1, ho.at_.2, hk⟩
theorem RecOwn.base {base base' : Nat} {w : World} {v : Value} {r : PRec} (h : RecOwn base w v r) (hb : base' ≤ base) : RecOwn base' w v r := by
  obtain ⟨va, vb, rfl, ho, hk⟩ := h
  exact ⟨va, vb, rfl, ho.base hb, hk⟩
theorem RecOwn.fr {base : Nat} {F : List Nat} {w w' : World} {v : Value} {r : PRec} (h : RecOwn base w v r) (hf : Fr F w w') (hF : ∀ k ∈ F, k < base) : RecOwn base w' v r := by
  obtain ⟨va, vb, rfl, ho, hk⟩ := h
  exact ⟨va, vb, rfl, ho.fr hf hF, hk⟩
theorem RecOwn.below {base : Nat} {w w' : World} {v : Value} {r : PRec} (h : RecOwn base w v r) (hb : Below w.heap.size w w') : RecOwn base w' v r := h.fr (Fr.of_below hb []) (by simp)
def RL14 (vs : List Value) (i : Nat) (_ : List Value) (v : Value) : Prop := v = vs.getD i undef
/-- What stands while the last region of parse is run. -/
structure W14 (X Y R : Nat) (st : ByteArray) (ok : Bool) (r : PRec) (va vb : Value) (w0 : World) (L : Nat → Prop) (w : World) : Prop where
  rd : w.heap[Y]? = some (.cells #[.string st, .bool ok] 147 (0, 0))
  rcd : w.heap[R]? = some (.cells #[.int .i64 r.kind, .int .i64 r.num, .int .u32 r.tx.ver, va, vb, .int .u32 r.tx.lock, .int .i64 r.index, .string r.id, .int .u32 r.idx, .int .i64 r.val, .int .i64 r.br, .int .u16 r.tag, .int .u16 r.delay, .int .u32 r.height, .int .i64 r.dead, .int .i64 r.budget, .int .i64 r.start, .int .i64 r.fee] 35 (0, 0))
  own : ∃ B, X < B ∧ TxOwn B w (.agg #[.int .u32 r.tx.ver, va, vb, .int .u32 r.tx.lock]) r.tx
  fr : Fr [X] w0 w
  ne : X ≠ Y ∧ X ≠ R
  okr : r.Ok
  ex : ∃ p : Bool, (p = true ↔ L 17) ∧ w.heap[X]? = some (.cells (bif p then #[.int .i64 r.kind, .int .i64 r.num, .int .u32 r.tx.ver, va, vb, .int .u32 r.tx.lock, .int .i64 r.index, .string r.id, .int .u32 r.idx, .int .i64 r.val, .int .i64 r.br, .int .u16 r.tag, .int .u16 r.delay, .int .u32 r.height, .int .i64 r.dead, .int .i64 r.budget, .int .i64 r.start, .int .i64 r.fee] else #[.int .i64 0, .int .i64 0, .int .u32 0, .slice none 0 0, .slice none 0 0, .int .u32 0, .int .i64 0, .string ⟨#[]⟩, .int .u32 0, .int .i64 0, .int .i64 0, .int .u16 0, .int .u16 0, .int .u32 0, .int .i64 0, .int .i64 0, .int .i64 0, .int .i64 0]) 35 (0, 0))
theorem W14.start {X Y R B : Nat} {st : ByteArray} {ok : Bool} {r : PRec} {va vb : Value} {w : World} (hR : w.heap[R]? = some (.cells #[.int .i64 r.kind, .int .i64 r.num, .int .u32 r.tx.ver, va, vb, .int .u32 r.tx.lock, .int .i64 r.index, .string r.id, .int .u32 r.idx, .int .i64 r.val, .int .i64 r.br, .int .u16 r.tag, .int .u16 r.delay, .int .u32 r.height, .int .i64 r.dead, .int .i64 r.budget, .int .i64 r.start, .int .i64 r.fee] 35 (0, 0))) (hO : TxOwn B w (.agg #[.int .u32 r.tx.ver, va, vb, .int .u32 r.tx.lock]) r.tx)
    (hY : w.heap[Y]? = some (.cells #[.string st, .bool ok] 147 (0, 0))) (hX : w.heap[X]? = some (.cells #[.int .i64 0, .int .i64 0, .int .u32 0, .slice none 0 0, .slice none 0 0, .int .u32 0, .int .i64 0, .string ⟨#[]⟩, .int .u32 0, .int .i64 0, .int .i64 0, .int .u16 0, .int .u16 0, .int .u32 0, .int .i64 0, .int .i64 0, .int .i64 0, .int .i64 0] 35 (0, 0))) (h1 : X ≠ Y) (h2 : X ≠ R) (hB : X < B) (hok : r.Ok) : W14 X Y R st ok r va vb w (fun _ => False) w :=
  ⟨hY, hR, ⟨B, hB, hO⟩, Fr.refl _ _, ⟨h1, h2⟩, hok, false, ⟨fun e => (by cases e), False.elim⟩, hX⟩
theorem W14.kept {X Y R : Nat} {st : ByteArray} {ok : Bool} {r : PRec} {va vb : Value} {w0 w w' : World} {L : Nat → Prop} (h : W14 X Y R st ok r va vb w0 L w) (hb : Fr [] w w') : W14 X Y R st ok r va vb w0 L w' := by
  obtain ⟨B, hB, ho⟩ := h.own
  obtain ⟨p, h1, h2⟩ := h.ex
  refine ⟨(hb.block Y (Array.getElem?_eq_some_iff.1 h.rd).1 (by simp)).trans h.rd, (hb.block R (Array.getElem?_eq_some_iff.1 h.rcd).1 (by simp)).trans h.rcd, ⟨B, hB, ho.fr hb (by simp)⟩, h.fr.trans' (hb.mono (by simp)), h.ne, h.okr, p, h1, (hb.block X (Array.getElem?_eq_some_iff.1 h2).1 (by simp)).trans h2⟩
theorem W14.drew {X Y R : Nat} {st : ByteArray} {ok : Bool} {r : PRec} {va vb : Value} {w0 w : World} {L : Nat → Prop} (h : W14 X Y R st ok r va vb w0 L w) : W14 X Y R st ok r va vb w0 L w.drew := h.kept (Fr.drew _ _)
theorem W14.below {X Y R : Nat} {st : ByteArray} {ok : Bool} {r : PRec} {va vb : Value} {w0 w w' : World} {L : Nat → Prop} (h : W14 X Y R st ok r va vb w0 L w) (hb : Below w.heap.size w w') : W14 X Y R st ok r va vb w0 L w' := h.kept (Fr.of_below hb _)
theorem W14.add {X Y R : Nat} {st : ByteArray} {ok : Bool} {r : PRec} {va vb : Value} {w0 w : World} {L : Nat → Prop} (h : W14 X Y R st ok r va vb w0 L w) (i : Nat) (hi : 17 ≠ i) : W14 X Y R st ok r va vb w0 (fun j => j = i ∨ L j) w := by
  obtain ⟨p, h1, h2⟩ := h.ex
  exact ⟨h.rd, h.rcd, h.own, h.fr, h.ne, h.okr, p, ⟨fun e => .inr (h1.1 e), fun e => e.elim (fun x => absurd x hi) h1.2⟩, h2⟩
theorem W14.old {X Y R : Nat} {st : ByteArray} {ok : Bool} {r : PRec} {va vb : Value} {w0 w : World} {L : Nat → Prop} (h : W14 X Y R st ok r va vb w0 L w) (hn : ¬ L 17) : w.heap[X]? = some (.cells #[.int .i64 0, .int .i64 0, .int .u32 0, .slice none 0 0, .slice none 0 0, .int .u32 0, .int .i64 0, .string ⟨#[]⟩, .int .u32 0, .int .i64 0, .int .i64 0, .int .u16 0, .int .u16 0, .int .u32 0, .int .i64 0, .int .i64 0, .int .i64 0, .int .i64 0] 35 (0, 0)) := by
  obtain ⟨p, h1, h2⟩ := h.ex
  cases p with
  | true => exact absurd (h1.1 rfl) hn
  | false => exact h2
theorem W14.new {X Y R : Nat} {st : ByteArray} {ok : Bool} {r : PRec} {va vb : Value} {w0 w : World} (h : W14 X Y R st ok r va vb w0 (fun j => j < 19) w) : w.heap[X]? = some (.cells #[.int .i64 r.kind, .int .i64 r.num, .int .u32 r.tx.ver, va, vb, .int .u32 r.tx.lock, .int .i64 r.index, .string r.id, .int .u32 r.idx, .int .i64 r.val, .int .i64 r.br, .int .u16 r.tag, .int .u16 r.delay, .int .u32 r.height, .int .i64 r.dead, .int .i64 r.budget, .int .i64 r.start, .int .i64 r.fee] 35 (0, 0)) := by
  obtain ⟨p, h1, h2⟩ := h.ex
  obtain rfl := h1.2 (by decide)
  exact h2
theorem W14.store {X Y R : Nat} {st : ByteArray} {ok : Bool} {r : PRec} {va vb : Value} {w0 w : World} {L : Nat → Prop} (h : W14 X Y R st ok r va vb w0 L w) (hn : ¬ L 17) : W14 X Y R st ok r va vb w0 (fun j => j = 17 ∨ L j) (w.setRow X #[.int .i64 r.kind, .int .i64 r.num, .int .u32 r.tx.ver, va, vb, .int .u32 r.tx.lock, .int .i64 r.index, .string r.id, .int .u32 r.idx, .int .i64 r.val, .int .i64 r.br, .int .u16 r.tag, .int .u16 r.delay, .int .u32 r.height, .int .i64 r.dead, .int .i64 r.budget, .int .i64 r.start, .int .i64 r.fee]) := by
  have hold := h.old hn
  obtain ⟨B, hB, ho⟩ := h.own
  have hf : Fr [X] w (w.setRow X #[.int .i64 r.kind, .int .i64 r.num, .int .u32 r.tx.ver, va, vb, .int .u32 r.tx.lock, .int .i64 r.index, .string r.id, .int .u32 r.idx, .int .i64 r.val, .int .i64 r.br, .int .u16 r.tag, .int .u16 r.delay, .int .u32 r.height, .int .i64 r.dead, .int .i64 r.budget, .int .i64 r.start, .int .i64 r.fee]) := Fr.row _ _ _ (by simp)
  have n1 := h.ne.1
  have n2 := h.ne.2
  exact ⟨(setRow_other _ _ _ _ (fun e => n1 e.symm)).trans h.rd, (setRow_other _ _ _ _ (fun e => n2 e.symm)).trans h.rcd, ⟨B, hB, ho.fr hf (by intro k hk; simp at hk; omega)⟩, h.fr.trans' hf, h.ne, h.okr, true, ⟨fun _ => .inl rfl, fun _ => rfl⟩, setRow_heap _ _ _ _ _ _ hold⟩
theorem W14.recAt {X Y R : Nat} {st : ByteArray} {ok : Bool} {r : PRec} {va vb : Value} {w0 w : World} {L : Nat → Prop} (h : W14 X Y R st ok r va vb w0 L w) : RecAt w (.agg #[.int .i64 r.kind, .int .i64 r.num, .int .u32 r.tx.ver, va, vb, .int .u32 r.tx.lock, .int .i64 r.index, .string r.id, .int .u32 r.idx, .int .i64 r.val, .int .i64 r.br, .int .u16 r.tag, .int .u16 r.delay, .int .u32 r.height, .int .i64 r.dead, .int .i64 r.budget, .int .i64 r.start, .int .i64 r.fee]) r := by
  obtain ⟨B, hB, ho⟩ := h.own
  exact ⟨va, vb, rfl, ho.at_.1, ho.at_.2, h.okr⟩
theorem W14.bel {X Y R : Nat} {st : ByteArray} {ok : Bool} {r : PRec} {va vb : Value} {w0 w : World} {L : Nat → Prop} (h : W14 X Y R st ok r va vb w0 L w) {B : Nat} (h1 : B ≤ w0.heap.size) (h2 : X = B) : Below B w0 w :=
  h.fr.below h1 (by intro k hk; simp at hk; omega)
theorem W14.recOwn {X Y R : Nat} {st : ByteArray} {ok : Bool} {r : PRec} {va vb : Value} {w0 w : World} {L : Nat → Prop} (h : W14 X Y R st ok r va vb w0 L w) {base : Nat} (hb : X = base) : RecOwn base w (.agg #[.int .i64 r.kind, .int .i64 r.num, .int .u32 r.tx.ver, va, vb, .int .u32 r.tx.lock, .int .i64 r.index, .string r.id, .int .u32 r.idx, .int .i64 r.val, .int .i64 r.br, .int .u16 r.tag, .int .u16 r.delay, .int .u32 r.height, .int .i64 r.dead, .int .i64 r.budget, .int .i64 r.start, .int .i64 r.fee]) r := by
  obtain ⟨B, hB, ho⟩ := h.own
  exact ⟨va, vb, rfl, ho.base (by omega), h.okr⟩
theorem numI_i64 (k : Nat) (x : RdS) : i64R (numI k x).2 := by
  show i64R (IntKind.i64.wrap _)
  rw [IntKind.wrap_i64]
  unfold i64R
  omega
theorem wishP_ok {r : PRec} (h : r.Ok) (x : RdS) : (wishP r x).2.Ok :=
  ⟨h.kind, h.num, h.ver, h.lock, h.index, h.id, h.idx, h.val, numI_i64 1 _, numR_lt 2 _, numR_lt 2 _, numR_lt 4 _, numI_i64 4 _, numI_i64 8 _, numI_i64 4 _, h.fee⟩
theorem takeR_size (n : Nat) (x : RdS) : (takeR n x).2.length ≤ n := by
  unfold takeR
  split
  · exact Nat.zero_le _
  · dsimp only; rw [List.length_take]; omega
theorem pointP_ok {r : PRec} (h : r.Ok) (x : RdS) : (pointP r x).2.Ok :=
  ⟨h.kind, h.num, h.ver, h.lock, h.index, by show (bL (takeR 32 x).2).size ≤ _; rw [bL_size]; have := takeR_size 32 x; omega, numR_lt 4 _, h.val, h.br, h.tag, h.delay, h.height, h.dead, h.budget, h.start, h.fee⟩
theorem bodyP_ok {r : PRec} (h : r.Ok) (x : RdS) (hv : (bodyP r x).2.tx.ver < 4294967296) (hk : (bodyP r x).2.tx.lock < 4294967296) : (bodyP r x).2.Ok := by
  unfold bodyP at hv hk ⊢
  split
  · rename_i h1
    rw [if_pos h1] at hv hk
    exact wishP_ok (r := { r with tx := (txR x).2, index := (numI 2 (txR x).1).2 }) ⟨h.kind, h.num, hv, hk, numI_i64 2 _, h.id, h.idx, h.val, h.br, h.tag, h.delay, h.height, h.dead, h.budget, h.start, h.fee⟩ _
  · split
    · have hp := pointP_ok h x
      exact wishP_ok (r := { (pointP r x).2 with val := (numI 8 (pointP r x).1).2 }) ⟨hp.kind, hp.num, hp.ver, hp.lock, hp.index, hp.id, hp.idx, numI_i64 8 _, hp.br, hp.tag, hp.delay, hp.height, hp.dead, hp.budget, hp.start, hp.fee⟩ _
    · split
      · exact pointP_ok h x
      · split
        · have hp := pointP_ok h x
          exact ⟨hp.kind, hp.num, hp.ver, hp.lock, numI_i64 2 _, hp.id, hp.idx, hp.val, hp.br, hp.tag, hp.delay, hp.height, hp.dead, hp.budget, hp.start, numI_i64 8 _⟩
        · exact h
/-- What the operations of parse's last region yield. -/
abbrev v14a (X Y : Nat) (st : ByteArray) (rf : PRec) (ia oa : Option Addr) (ic oc : Nat) (ce : Int) : List Value := [.agg #[.int .i64 rf.kind, .int .i64 rf.num, .int .u32 rf.tx.ver, .slice ia rf.tx.ins.length ic, .slice oa rf.tx.outs.length oc, .int .u32 rf.tx.lock, .int .i64 rf.index, .string rf.id, .int .u32 rf.idx, .int .i64 rf.val, .int .i64 rf.br, .int .u16 rf.tag, .int .u16 rf.delay, .int .u32 rf.height, .int .i64 rf.dead, .int .i64 rf.budget, .int .i64 rf.start, .int .i64 rf.fee], .pointer (some ⟨Y, 0, none⟩), .pointer (some ⟨Y, 0, none⟩), .pointer (some ⟨Y, 1, none⟩), .bool false, .bool false, undef, undef, undef, undef, undef, .bool false, .bool false, undef, undef, undef, .bool false, undef, .bool false]
/-- What the operations of parse's last region yield. -/
abbrev v14b (X Y : Nat) (st : ByteArray) (rf : PRec) (ia oa : Option Addr) (ic oc : Nat) (ce : Int) : List Value := [.agg #[.int .i64 rf.kind, .int .i64 rf.num, .int .u32 rf.tx.ver, .slice ia rf.tx.ins.length ic, .slice oa rf.tx.outs.length oc, .int .u32 rf.tx.lock, .int .i64 rf.index, .string rf.id, .int .u32 rf.idx, .int .i64 rf.val, .int .i64 rf.br, .int .u16 rf.tag, .int .u16 rf.delay, .int .u32 rf.height, .int .i64 rf.dead, .int .i64 rf.budget, .int .i64 rf.start, .int .i64 rf.fee], .pointer (some ⟨Y, 0, none⟩), .pointer (some ⟨Y, 0, none⟩), .pointer (some ⟨Y, 1, none⟩), .bool true, .bool true, .pointer (some ⟨Y, 0, none⟩), .pointer (some ⟨Y, 0, none⟩), .pointer (some ⟨Y, 0, none⟩), .string st, .bool true, .bool true, .bool true, .agg #[.int .i64 rf.kind, .int .i64 rf.num, .int .u32 rf.tx.ver, .slice ia rf.tx.ins.length ic, .slice oa rf.tx.outs.length oc, .int .u32 rf.tx.lock, .int .i64 rf.index, .string rf.id, .int .u32 rf.idx, .int .i64 rf.val, .int .i64 rf.br, .int .u16 rf.tag, .int .u16 rf.delay, .int .u32 rf.height, .int .i64 rf.dead, .int .i64 rf.budget, .int .i64 rf.start, .int .i64 rf.fee], .int .i64 ce, .bool (ce == 0), .bool (ce == 0), undef, .bool (ce == 0)]
/-- What the operations of parse's last region yield. -/
abbrev v14c (X Y : Nat) (st : ByteArray) (rf : PRec) (ia oa : Option Addr) (ic oc : Nat) (ce : Int) : List Value := [.agg #[.int .i64 rf.kind, .int .i64 rf.num, .int .u32 rf.tx.ver, .slice ia rf.tx.ins.length ic, .slice oa rf.tx.outs.length oc, .int .u32 rf.tx.lock, .int .i64 rf.index, .string rf.id, .int .u32 rf.idx, .int .i64 rf.val, .int .i64 rf.br, .int .u16 rf.tag, .int .u16 rf.delay, .int .u32 rf.height, .int .i64 rf.dead, .int .i64 rf.budget, .int .i64 rf.start, .int .i64 rf.fee], .pointer (some ⟨Y, 0, none⟩), .pointer (some ⟨Y, 0, none⟩), .pointer (some ⟨Y, 1, none⟩), .bool true, .bool true, .pointer (some ⟨Y, 0, none⟩), .pointer (some ⟨Y, 0, none⟩), .pointer (some ⟨Y, 0, none⟩), .string st, .bool false, .bool false, .bool false, undef, undef, undef, .bool false, undef, .bool false]
set_option maxRecDepth 100000 in
set_option maxHeartbeats 16000000 in
theorem rparse_any (s : ByteArray) (w : World) (hs : s.size ≤ 9223372036854775000) :
    Calls Tryz.prog 85 #[.string s] w (fun e w' => ∃ v, e = .returned (.tuple #[v, .bool (goodP s.data.toList)]) ∧ RecOwn w.heap.size w' v (parseP s.data.toList).2 ∧ Below w.heap.size w w') := by
  obtain ⟨l, hl⟩ : ∃ l, l = s.data.toList := ⟨_, rfl⟩
  rw [← hl]
  have hbl : s = bL l := by rw [hl, bL_data]
  have hll : l.length ≤ 9223372036854775000 := by rw [hl, data_len]; exact hs
  obtain ⟨k, hk⟩ : ∃ k, k = (numI 1 ⟨l, true⟩).2 := ⟨_, rfl⟩
  obtain ⟨x1, hx1⟩ : ∃ x, x = (numI 1 ⟨l, true⟩).1 := ⟨_, rfl⟩
  obtain ⟨m, hm⟩ : ∃ k, k = (numI 4 x1).2 := ⟨_, rfl⟩
  obtain ⟨x2, hx2⟩ : ∃ x, x = (numI 4 x1).1 := ⟨_, rfl⟩
  have hl1 : x1.t.length ≤ 9223372036854775000 := by rw [hx1]; exact Nat.le_trans (takeR_le 1 ⟨l, true⟩) hll
  have hl2 : x2.t.length ≤ 9223372036854775000 := by rw [hx2]; exact Nat.le_trans (takeR_le 4 x1) hl1
  have hhd : headR l = { noRec with kind := k, num := m } := by unfold headR; rw [← hx1, ← hk, ← hm]
  have hhs : headS l = x2 := by unfold headS; rw [← hx1, ← hx2]
  obtain ⟨r0, hr0⟩ : ∃ r : PRec, r = { noRec with kind := k, num := m } := ⟨_, rfl⟩
  have hpp : parseP l = bodyP r0 x2 := by unfold parseP; rw [hhd, hhs, hr0]
  have hr0k : r0.kind = k := by rw [hr0]
  have N1 := hid (show ∀ (b : Nat) (y : World), PdAt b ⟨l, true⟩ y → Calls Tryz.prog 109 #[.pointer (some ⟨b, 0, none⟩), .int .i64 1] y (PdIs b x1 (.int .i64 k) y) from fun b y hy => by
    rw [hx1, hk]; exact rnum_any b ⟨l, true⟩ 1 y hy (by unfold okSize; decide) hll)
  have N2 := hid (show ∀ (b : Nat) (y : World), PdAt b x1 y → Calls Tryz.prog 109 #[.pointer (some ⟨b, 0, none⟩), .int .i64 4] y (PdIs b x2 (.int .i64 m) y) from fun b y hy => by
    rw [hx2, hm]; exact rnum_any b x1 4 y hy (by unfold okSize; decide) hl1)
  have hki : i64R k ∧ i64R m := by
    refine ⟨?_, ?_⟩
    · rw [hk]; show i64R (IntKind.i64.wrap _); rw [IntKind.wrap_i64]; unfold i64R; omega
    · rw [hm]; show i64R (IntKind.i64.wrap _); rw [IntKind.wrap_i64]; unfold i64R; omega
  have HRZ := hid hr0
  have HPP := hid hpp
  have HL2 := hid hl2
  have HKI := hid hki
  have HR0K := hid hr0k
  have HBL := hid hbl
  clear hl hbl hk hx1 hm hx2 hl1 hl2 hhd hhs hr0 hpp hr0k hki hll hs
  go_enter Tryz.func85, Tryz.ntmps85

  go_upto_region 2 with fail
  obtain ⟨X, hX⟩ : ∃ q, q = w.heap.size := ⟨_, rfl⟩
  have hnews := new2 w X hX (.cells #[.int .i64 0, .int .i64 0, .int .u32 0, .slice none 0 0, .slice none 0 0, .int .u32 0, .int .i64 0, .string ⟨#[]⟩, .int .u32 0, .int .i64 0, .int .i64 0, .int .u16 0, .int .u16 0, .int .u32 0, .int .i64 0, .int .i64 0, .int .i64 0, .int .i64 0] 35) (.cells #[.string s, .bool true] 147)
  rw [← hX]
  generalize ((w.alloc (.cells #[.int .i64 0, .int .i64 0, .int .u32 0, .slice none 0 0, .slice none 0 0, .int .u32 0, .int .i64 0, .string ⟨#[]⟩, .int .u32 0, .int .i64 0, .int .i64 0, .int .u16 0, .int .u16 0, .int .u32 0, .int .i64 0, .int .i64 0, .int .i64 0, .int .i64 0] 35)).alloc (.cells #[.string s, .bool true] 147)) = w0 at *
  obtain ⟨hz0, hz1, hal⟩ := hnews
  obtain ⟨Y, hY⟩ : ∃ Y, Y = X + 1 := ⟨_, rfl⟩
  rw [← hY] at hz1 ⊢
  have HX := hid hz0
  have HP := hid (show PdAt Y ⟨l, true⟩ w0 from by unfold PdAt; rw [← HBL.out]; exact hz1)
  have HB := hid (show Below w.heap.size w w0 from hal)
  have HXS := hid (show X = w.heap.size ∧ Y = X + 1 from ⟨hX, hY⟩)
  clear hz0 hz1 hal hX hY
  go_wp2_with fail
  refine (N1.out Y w0 HP.out).mono ?_
  rintro e w1 ⟨rfl, ha, hf⟩
  have HP := hid ha
  have HX := hid ((hf.block X (Array.getElem?_eq_some_iff.1 HX.out).1 (by have := HXS.out; simp; omega)).trans HX.out)
  have HB := hid (HB.out.trans (hf.below HB.out.size (by intro j hj; have := HXS.out; simp at hj; omega)))
  clear ha hf N1
  go_wp2_with fail
  refine (N2.out Y w1 HP.out).mono ?_
  rintro e w2 ⟨rfl, ha, hf⟩
  have HP := hid ha
  have HX := hid ((hf.block X (Array.getElem?_eq_some_iff.1 HX.out).1 (by have := HXS.out; simp; omega)).trans HX.out)
  have HB := hid (HB.out.trans (hf.below HB.out.size (by intro j hj; have := HXS.out; simp at hj; omega)))
  clear ha hf N2
  have HNW := hid (heap_alloc_new w2 (.cells #[.int .i64 0, .int .i64 0, .int .u32 0, .slice none 0 0, .slice none 0 0, .int .u32 0, .int .i64 0, .string ⟨#[]⟩, .int .u32 0, .int .i64 0, .int .i64 0, .int .u16 0, .int .u16 0, .int .u32 0, .int .i64 0, .int .i64 0, .int .i64 0, .int .i64 0] 35))
  have HNR := hid (setRow_heap (w2.alloc (.cells #[.int .i64 0, .int .i64 0, .int .u32 0, .slice none 0 0, .slice none 0 0, .int .u32 0, .int .i64 0, .string ⟨#[]⟩, .int .u32 0, .int .i64 0, .int .i64 0, .int .u16 0, .int .u16 0, .int .u32 0, .int .i64 0, .int .i64 0, .int .i64 0, .int .i64 0] 35)) w2.heap.size _ #[.int .i64 k, .int .i64 m, .int .u32 0, .slice none 0 0, .slice none 0 0, .int .u32 0, .int .i64 0, .string ⟨#[]⟩, .int .u32 0, .int .i64 0, .int .i64 0, .int .u16 0, .int .u16 0, .int .u32 0, .int .i64 0, .int .i64 0, .int .i64 0, .int .i64 0] _ _ HNW.out)
  have hal : Below w2.heap.size w2 ((w2.alloc (.cells #[.int .i64 0, .int .i64 0, .int .u32 0, .slice none 0 0, .slice none 0 0, .int .u32 0, .int .i64 0, .string ⟨#[]⟩, .int .u32 0, .int .i64 0, .int .i64 0, .int .u16 0, .int .u16 0, .int .u32 0, .int .i64 0, .int .i64 0, .int .i64 0, .int .i64 0] 35)).setRow w2.heap.size #[.int .i64 k, .int .i64 m, .int .u32 0, .slice none 0 0, .slice none 0 0, .int .u32 0, .int .i64 0, .string ⟨#[]⟩, .int .u32 0, .int .i64 0, .int .i64 0, .int .u16 0, .int .u16 0, .int .u32 0, .int .i64 0, .int .i64 0, .int .i64 0, .int .i64 0]) := below_rowE ((Below.refl _ _).alloc (Nat.le_refl _) _) (Nat.le_refl _) _
  have HAL := hid hal
  clear hal
  go_upto_region 3 with (refine wpList_store_row rfl 35 (.tmp 5) (.tmp 13) rfl w2.heap.size #[.int .i64 k, .int .i64 m, .int .u32 0, .slice none 0 0, .slice none 0 0, .int .u32 0, .int .i64 0, .string ⟨#[]⟩, .int .u32 0, .int .i64 0, .int .i64 0, .int .u16 0, .int .u16 0, .int .u32 0, .int .i64 0, .int .i64 0, .int .i64 0, .int .i64 0] rfl rfl 35 _ HNW.out (by kernel_rfl) rfl (by kernel_rfl) ?_)
  clear HNW
  obtain ⟨R, hR⟩ : ∃ q, q = w2.heap.size := ⟨_, rfl⟩
  rw [← hR]
  have hz := HNR.out
  have hal := HAL.out
  clear HNR HAL
  rw [← hR] at hz hal
  generalize World.setRow _ R _ = w3 at *
  rw [hR] at hal
  have HXS := hid (show X = w.heap.size ∧ Y = X + 1 ∧ Y < R ∧ R < w3.heap.size from by
    have h1 := HXS.out
    have h2 := HP.out.lt
    have h3 := (Array.getElem?_eq_some_iff.1 hz).1
    exact ⟨h1.1, h1.2, by omega, h3⟩)
  have HP := hid (HP.out.below hal)
  have HX := hid ((hal.block X (Array.getElem?_eq_some_iff.1 HX.out).1).trans HX.out)
  have HB := hid (HB.out.trans (hal.mono HB.out.size))
  have HR := hid hz
  have d0 : w3.cell? ⟨R, 0, none⟩ = some (.int .i64 k) := cell_at hz
  clear hz hal hR
  go_upto_block 0 with fail
  clear d0
  have HR0 := hid (show w3.heap[R]? = some (.cells #[.int .i64 r0.kind, .int .i64 r0.num, .int .u32 r0.tx.ver, .slice none 0 0, .slice none 0 0, .int .u32 r0.tx.lock, .int .i64 r0.index, .string r0.id, .int .u32 r0.idx, .int .i64 r0.val, .int .i64 r0.br, .int .u16 r0.tag, .int .u16 r0.delay, .int .u32 r0.height, .int .i64 r0.dead, .int .i64 r0.budget, .int .i64 r0.start, .int .i64 r0.fee] 35 (0, 0)) from by rw [HRZ.out]; exact HR.out)
  clear HR
  go_cut [] (fun wx => Prsd X Y R (bodyP r0 x2).1 (bodyP r0 x2).2 w3 wx)
  case first =>
    have HF := hid (Fr.refl [Y, R] w3)
    have HRY := hid (show R ≠ Y from by have := HXS.out; omega)
    by_cases hk1 : k = 1
    · have hk := hk1
      have c1 : (k == 1) = true := by rw [hk]; decide
      obtain ⟨y1, hy1⟩ : ∃ y, y = (txR x2).1 := ⟨_, rfl⟩
      obtain ⟨t, ht⟩ : ∃ y, y = (txR x2).2 := ⟨_, rfl⟩
      obtain ⟨y2, hy2⟩ : ∃ y, y = (numI 2 y1).1 := ⟨_, rfl⟩
      obtain ⟨i1, hi1⟩ : ∃ y, y = (numI 2 y1).2 := ⟨_, rfl⟩
      obtain ⟨r1, hr1⟩ : ∃ r : PRec, r = { r0 with tx := t, index := i1 } := ⟨_, rfl⟩
      have HE := hid (show bodyP r0 x2 = wishP r1 y2 from by unfold bodyP; rw [if_pos (by rw [HR0K.out]; exact hk), ← hy1, ← ht, ← hy2, ← hi1, ← hr1])
      have HTO := hid (show t.outs.length ≤ 256 from by rw [ht]; exact txR_outs x2)
      have HLY1 := hid (show y1.t.length ≤ 9223372036854775000 from by rw [hy1]; exact Nat.le_trans (txR_le x2) HL2.out)
      have HLY2 := hid (show y2.t.length ≤ 9223372036854775000 from by rw [hy2]; exact Nat.le_trans (takeR_le 2 y1) HLY1.out)
      have NT := hid (show ∀ y : World, PdAt Y x2 y → Calls Tryz.prog 110 #[.pointer (some ⟨Y, 0, none⟩)] y (fun e w' => ∃ v, e = .returned v ∧ TxOwn y.heap.size w' v t ∧ PdAt Y y1 w' ∧ Fr [Y] y w') from fun y hy => by rw [hy1, ht]; exact rtx_any Y x2 y hy HL2.out)
      have NI := hid (show ∀ y : World, PdAt Y y1 y → Calls Tryz.prog 109 #[.pointer (some ⟨Y, 0, none⟩), .int .i64 2] y (PdIs Y y2 (.int .i64 i1) y) from fun y hy => by rw [hy2, hi1]; exact rnum_any Y y1 2 y hy (by unfold okSize; decide) HLY1.out)
      have HR1 := hid hr1
      have HR := HR0
      clear hk1 hk hy1 ht hy2 hi1 hr1
      go_wp2_with fail
      refine (NT.out w3 HP.out).mono ?_
      rintro e w4 ⟨v, rfl, ho, hp, hf⟩
      have HP := hid hp
      have HR := hid ((hf.block R (Array.getElem?_eq_some_iff.1 HR.out).1 (by have := HRY.out; simpa using this)).trans HR.out)
      have HF := hid (HF.out.trans' (hf.mono (F' := [Y, R]) (fun j hj => .inl (by simp at hj; simp [hj]))))
      obtain ⟨ta, tb, rfl, hta, htb, -, -⟩ := ho.tx
      have HO := hid ho
      obtain ⟨iA, iC, rfl, -, -⟩ := hta.shape
      obtain ⟨oA, oC, rfl, -, -⟩ := htb.shape
      obtain ⟨n1, hn1⟩ : ∃ q, q = t.ins.length := ⟨_, rfl⟩
      obtain ⟨n2, hn2⟩ : ∃ q, q = t.outs.length := ⟨_, rfl⟩
      rw [← hn1, ← hn2] at HO
      rw [← hn1, ← hn2]
      have HF4 := hid (Fr.refl [Y, R] w4)
      clear hp hf ho hta htb NT hn1 hn2
      go_wp2_with fail
      refine (NI.out w4 HP.out).mono ?_
      rintro e w5 ⟨rfl, hp, hf⟩
      have HP := hid hp
      have HR := hid ((hf.block R (Array.getElem?_eq_some_iff.1 HR.out).1 (by have := HRY.out; simpa using this)).trans HR.out)
      have HF := hid (HF.out.trans' (hf.mono (F' := [Y, R]) (fun j hj => .inl (by simp at hj; simp [hj]))))
      have HF4 := hid (HF4.out.trans' (hf.mono (F' := [Y, R]) (fun j hj => .inl (by simp at hj; simp [hj]))))
      clear hp hf
      have d2 : w5.cell? ⟨R, 2, none⟩ = some (.int .u32 r0.tx.ver) := cell_at HR.out
      have f2 : w5.frozen? ⟨R, 2, none⟩ = false := free_at HR.out
      have d3 : w5.cell? ⟨R, 3, none⟩ = some (.slice none 0 0) := cell_at HR.out
      have f3 : w5.frozen? ⟨R, 3, none⟩ = false := free_at HR.out
      have d4 : w5.cell? ⟨R, 4, none⟩ = some (.slice none 0 0) := cell_at HR.out
      have f4 : w5.frozen? ⟨R, 4, none⟩ = false := free_at HR.out
      have d5 : w5.cell? ⟨R, 5, none⟩ = some (.int .u32 r0.tx.lock) := cell_at HR.out
      have f5 : w5.frozen? ⟨R, 5, none⟩ = false := free_at HR.out
      have d6 : w5.cell? ⟨R, 6, none⟩ = some (.int .i64 r0.index) := cell_at HR.out
      have f6 : w5.frozen? ⟨R, 6, none⟩ = false := free_at HR.out
      obtain ⟨z1, z2, -⟩ := stores_spec [(2, .int .u32 t.ver), (3, .slice iA n1 iC), (4, .slice oA n2 oC), (5, .int .u32 t.lock), (6, .int .i64 i1)] HR.out
      have HP := hid (show PdAt Y _ (stores w5 R [(2, .int .u32 t.ver), (3, .slice iA n1 iC), (4, .slice oA n2 oC), (5, .int .u32 t.lock), (6, .int .i64 i1)]) from (z2 Y (fun e => HRY.out e.symm)).trans HP.out)
      have HR := hid (show (stores w5 R [(2, .int .u32 t.ver), (3, .slice iA n1 iC), (4, .slice oA n2 oC), (5, .int .u32 t.lock), (6, .int .i64 i1)]).heap[R]? = some (.cells #[.int .i64 r1.kind, .int .i64 r1.num, .int .u32 r1.tx.ver, .slice iA n1 iC, .slice oA n2 oC, .int .u32 r1.tx.lock, .int .i64 r1.index, .string r1.id, .int .u32 r1.idx, .int .i64 r1.val, .int .i64 r1.br, .int .u16 r1.tag, .int .u16 r1.delay, .int .u32 r1.height, .int .i64 r1.dead, .int .i64 r1.budget, .int .i64 r1.start, .int .i64 r1.fee] 35 (0, 0)) from by rw [HR1.out]; exact z1)
      have HF := hid (HF.out.trans' (stores_fr (b := R) (by simp) [(2, .int .u32 t.ver), (3, .slice iA n1 iC), (4, .slice oA n2 oC), (5, .int .u32 t.lock), (6, .int .i64 i1)] w5))
      clear z1 z2
      go_wp2_with fail
      change Calls _ _ _ (stores w5 R [(2, .int .u32 t.ver), (3, .slice iA n1 iC), (4, .slice oA n2 oC), (5, .int .u32 t.lock), (6, .int .i64 i1)]) _
      have HF4 := hid (HF4.out.trans' (stores_fr (b := R) (by simp) [(2, .int .u32 t.ver), (3, .slice iA n1 iC), (4, .slice oA n2 oC), (5, .int .u32 t.lock), (6, .int .i64 i1)] w5))
      generalize stores w5 R [(2, .int .u32 t.ver), (3, .slice iA n1 iC), (4, .slice oA n2 oC), (5, .int .u32 t.lock), (6, .int .i64 i1)] = w6 at *
      clear d2 f2 d3 f3 d4 f4 d5 f5 d6 f6
      refine (rwish_any Y R y2 r1 (.slice iA n1 iC) (.slice oA n2 oC) w6 HP.out HR.out HRY.out HLY2.out).mono ?_
      rintro e w7 ⟨rfl, hp, hr, hf⟩
      have HP := hid hp
      have HR := hid hr
      have HF := hid (HF.out.trans' hf)
      have HF4 := hid (HF4.out.trans' hf)
      clear hp hr hf
      go_wp2_with fail
      go_meet
      rw [HE.out]
      have HX := hid ((HF.out.block X (Array.getElem?_eq_some_iff.1 HX.out).1 (by have := HXS.out; simp; omega)).trans HX.out)
      exact ⟨⟨w3.heap.size, _, _, HR.out, by rw [show (wishP r1 y2).2.tx = t from by show r1.tx = t; rw [HR1.out]]; exact HO.out.fr HF4.out (by have := HXS.out; intro j hj; simp at hj; omega), by have := HXS.out; omega, by have := HXS.out; omega, by have := HXS.out; omega⟩, HP.out, HX.out, HF.out, by rw [show (wishP r1 y2).2.tx = t from by show r1.tx = t; rw [HR1.out]]; exact HTO.out⟩
    by_cases hk2 : k = 2
    · have hk := hk2
      have c1 : (k == 1) = false := by rw [hk]; decide
      have c2 : (k == 2) = true := by rw [hk]; decide
      obtain ⟨y1, hy1⟩ : ∃ y, y = pointS x2 := ⟨_, rfl⟩
      obtain ⟨ii, hii⟩ : ∃ y, y = bL (takeR 32 x2).2 := ⟨_, rfl⟩
      obtain ⟨ix, hix⟩ : ∃ y, y = pointN x2 := ⟨_, rfl⟩
      have HLY1 := hid (show y1.t.length ≤ 9223372036854775000 from by rw [hy1]; exact Nat.le_trans (Nat.le_trans (takeR_le 4 _) (takeR_le 32 x2)) HL2.out)
      have NT := hid (show ∀ y : World, PdAt Y x2 y → Calls Tryz.prog 112 #[.pointer (some ⟨Y, 0, none⟩)] y (PdIs Y y1 (.agg #[.string ii, .int .u32 ix]) y) from fun y hy => by rw [hy1, hii, hix]; exact rpoint_any Y x2 y hy HL2.out)
      obtain ⟨y2, hy2⟩ : ∃ y, y = (numI 8 y1).1 := ⟨_, rfl⟩
      obtain ⟨v1, hv1⟩ : ∃ y, y = (numI 8 y1).2 := ⟨_, rfl⟩
      have HLY2 := hid (show y2.t.length ≤ 9223372036854775000 from by rw [hy2]; exact Nat.le_trans (takeR_le 8 y1) HLY1.out)
      have NN1 := hid (show ∀ y : World, PdAt Y y1 y → Calls Tryz.prog 109 #[.pointer (some ⟨Y, 0, none⟩), .int .i64 8] y (PdIs Y y2 (.int .i64 v1) y) from fun y hy => by rw [hy2, hv1]; exact rnum_any Y y1 8 y hy (by unfold okSize; decide) HLY1.out)
      obtain ⟨r1, hr1⟩ : ∃ r : PRec, r = { r0 with id := ii, idx := ix, val := v1 } := ⟨_, rfl⟩
      have HE := hid (show bodyP r0 x2 = wishP r1 y2 from by unfold bodyP; rw [if_neg (by rw [HR0K.out, hk]; decide), if_pos (by rw [HR0K.out]; exact hk)]; simp only [pointP_eq, ← hy1, ← hii, ← hix, ← hy2, ← hv1, hr1])
      have HR1 := hid hr1
      have HR := HR0
      clear hk1 hk2 hk hy1 hii hix hr1 hy2 hv1
      go_wp2_with fail
      refine (NT.out w3 HP.out).mono ?_
      rintro e w4 ⟨rfl, hp, hf⟩
      have HP := hid hp
      have HR := hid ((hf.block R (Array.getElem?_eq_some_iff.1 HR.out).1 (by have := HRY.out; simpa using this)).trans HR.out)
      have HF := hid (HF.out.trans' (hf.mono (F' := [Y, R]) (fun j hj => .inl (by simp at hj; simp [hj]))))
      clear hp hf
      go_wp2_with fail
      refine (NN1.out w4 HP.out).mono ?_
      rintro e w5 ⟨rfl, hp, hf⟩
      have HP := hid hp
      have HR := hid ((hf.block R (Array.getElem?_eq_some_iff.1 HR.out).1 (by have := HRY.out; simpa using this)).trans HR.out)
      have HF := hid (HF.out.trans' (hf.mono (F' := [Y, R]) (fun j hj => .inl (by simp at hj; simp [hj]))))
      clear hp hf
      have d7 : w5.cell? ⟨R, 7, none⟩ = some (.string r0.id) := cell_at HR.out
      have f7 : w5.frozen? ⟨R, 7, none⟩ = false := free_at HR.out
      have d8 : w5.cell? ⟨R, 8, none⟩ = some (.int .u32 r0.idx) := cell_at HR.out
      have f8 : w5.frozen? ⟨R, 8, none⟩ = false := free_at HR.out
      have d9 : w5.cell? ⟨R, 9, none⟩ = some (.int .i64 r0.val) := cell_at HR.out
      have f9 : w5.frozen? ⟨R, 9, none⟩ = false := free_at HR.out
      obtain ⟨z1, z2, -⟩ := stores_spec [(7, .string ii), (8, .int .u32 ix), (9, .int .i64 v1)] HR.out
      have HP := hid (show PdAt Y _ (stores w5 R [(7, .string ii), (8, .int .u32 ix), (9, .int .i64 v1)]) from (z2 Y (fun e => HRY.out e.symm)).trans HP.out)
      have HR := hid (show (stores w5 R [(7, .string ii), (8, .int .u32 ix), (9, .int .i64 v1)]).heap[R]? = some (.cells #[.int .i64 r1.kind, .int .i64 r1.num, .int .u32 r1.tx.ver, .slice none 0 0, .slice none 0 0, .int .u32 r1.tx.lock, .int .i64 r1.index, .string r1.id, .int .u32 r1.idx, .int .i64 r1.val, .int .i64 r1.br, .int .u16 r1.tag, .int .u16 r1.delay, .int .u32 r1.height, .int .i64 r1.dead, .int .i64 r1.budget, .int .i64 r1.start, .int .i64 r1.fee] 35 (0, 0)) from by rw [HR1.out]; exact z1)
      have HF := hid (HF.out.trans' (stores_fr (b := R) (by simp) [(7, .string ii), (8, .int .u32 ix), (9, .int .i64 v1)] w5))
      clear z1 z2
      go_wp2_with fail
      change Calls _ _ _ (stores w5 R [(7, .string ii), (8, .int .u32 ix), (9, .int .i64 v1)]) _
      generalize stores w5 R [(7, .string ii), (8, .int .u32 ix), (9, .int .i64 v1)] = w6 at *
      clear d7 f7 d8 f8 d9 f9
      refine (rwish_any Y R y2 r1 (.slice none 0 0) (.slice none 0 0) w6 HP.out HR.out HRY.out HLY2.out).mono ?_
      rintro e w9 ⟨rfl, hp, hr, hf⟩
      have HP := hid hp
      have HR := hid hr
      have HF := hid (HF.out.trans' hf)
      clear hp hr hf
      go_wp2_with fail
      go_meet
      rw [HE.out]
      have HX := hid ((HF.out.block X (Array.getElem?_eq_some_iff.1 HX.out).1 (by have := HXS.out; simp; omega)).trans HX.out)
      exact ⟨⟨w3.heap.size, _, _, HR.out, by have h := noTxQ_own w3.heap.size w9; rw [show (wishP r1 y2).2.tx = noTx from by first | (show r1.tx = noTx; rw [HR1.out]; show r0.tx = noTx; rw [HRZ.out]; rfl) | (show r0.tx = noTx; rw [HRZ.out]; rfl)]; exact h, by have := HXS.out; omega, by have := HXS.out; omega, by have := HXS.out; omega⟩, HP.out, HX.out, HF.out, by rw [show (wishP r1 y2).2.tx = noTx from by first | (show r1.tx = noTx; rw [HR1.out]; show r0.tx = noTx; rw [HRZ.out]; rfl) | (show r0.tx = noTx; rw [HRZ.out]; rfl)]; exact Nat.zero_le _⟩
    by_cases hk3 : k = 3
    · have hk := hk3
      have c1 : (k == 1) = false := by rw [hk]; decide
      have c2 : (k == 2) = false := by rw [hk]; decide
      have c3 : (k == 3) = true := by rw [hk]; decide
      obtain ⟨y1, hy1⟩ : ∃ y, y = pointS x2 := ⟨_, rfl⟩
      obtain ⟨ii, hii⟩ : ∃ y, y = bL (takeR 32 x2).2 := ⟨_, rfl⟩
      obtain ⟨ix, hix⟩ : ∃ y, y = pointN x2 := ⟨_, rfl⟩
      have HLY1 := hid (show y1.t.length ≤ 9223372036854775000 from by rw [hy1]; exact Nat.le_trans (Nat.le_trans (takeR_le 4 _) (takeR_le 32 x2)) HL2.out)
      have NT := hid (show ∀ y : World, PdAt Y x2 y → Calls Tryz.prog 112 #[.pointer (some ⟨Y, 0, none⟩)] y (PdIs Y y1 (.agg #[.string ii, .int .u32 ix]) y) from fun y hy => by rw [hy1, hii, hix]; exact rpoint_any Y x2 y hy HL2.out)
      obtain ⟨r1, hr1⟩ : ∃ r : PRec, r = { r0 with id := ii, idx := ix } := ⟨_, rfl⟩
      have HE := hid (show bodyP r0 x2 = (y1, r1) from by unfold bodyP; rw [if_neg (by rw [HR0K.out, hk]; decide), if_neg (by rw [HR0K.out, hk]; decide), if_pos (by rw [HR0K.out]; exact hk)]; simp only [pointP_eq, ← hy1, ← hii, ← hix, hr1])
      have HR1 := hid hr1
      have HR := HR0
      clear hk1 hk2 hk3 hk hy1 hii hix hr1 
      go_wp2_with fail
      refine (NT.out w3 HP.out).mono ?_
      rintro e w4 ⟨rfl, hp, hf⟩
      have HP := hid hp
      have HR := hid ((hf.block R (Array.getElem?_eq_some_iff.1 HR.out).1 (by have := HRY.out; simpa using this)).trans HR.out)
      have HF := hid (HF.out.trans' (hf.mono (F' := [Y, R]) (fun j hj => .inl (by simp at hj; simp [hj]))))
      clear hp hf
      have d7 : w4.cell? ⟨R, 7, none⟩ = some (.string r0.id) := cell_at HR.out
      have f7 : w4.frozen? ⟨R, 7, none⟩ = false := free_at HR.out
      have d8 : w4.cell? ⟨R, 8, none⟩ = some (.int .u32 r0.idx) := cell_at HR.out
      have f8 : w4.frozen? ⟨R, 8, none⟩ = false := free_at HR.out
      obtain ⟨z1, z2, -⟩ := stores_spec [(7, .string ii), (8, .int .u32 ix)] HR.out
      have HP := hid (show PdAt Y _ (stores w4 R [(7, .string ii), (8, .int .u32 ix)]) from (z2 Y (fun e => HRY.out e.symm)).trans HP.out)
      have HR := hid (show (stores w4 R [(7, .string ii), (8, .int .u32 ix)]).heap[R]? = some (.cells #[.int .i64 r1.kind, .int .i64 r1.num, .int .u32 r1.tx.ver, .slice none 0 0, .slice none 0 0, .int .u32 r1.tx.lock, .int .i64 r1.index, .string r1.id, .int .u32 r1.idx, .int .i64 r1.val, .int .i64 r1.br, .int .u16 r1.tag, .int .u16 r1.delay, .int .u32 r1.height, .int .i64 r1.dead, .int .i64 r1.budget, .int .i64 r1.start, .int .i64 r1.fee] 35 (0, 0)) from by rw [HR1.out]; exact z1)
      have HF := hid (HF.out.trans' (stores_fr (b := R) (by simp) [(7, .string ii), (8, .int .u32 ix)] w4))
      clear z1 z2
      go_wp2_with fail
      go_meet
      rw [HE.out]
      have HX := hid ((HF.out.block X (Array.getElem?_eq_some_iff.1 HX.out).1 (by have := HXS.out; simp; omega)).trans HX.out)
      exact ⟨⟨w3.heap.size, _, _, HR.out, by have h := noTxQ_own w3.heap.size (stores w4 R [(7, .string ii), (8, .int .u32 ix)]); rw [show r1.tx = noTx from by first | (show r1.tx = noTx; rw [HR1.out]; show r0.tx = noTx; rw [HRZ.out]; rfl) | (show r0.tx = noTx; rw [HRZ.out]; rfl)]; exact h, by have := HXS.out; omega, by have := HXS.out; omega, by have := HXS.out; omega⟩, HP.out, HX.out, HF.out, by rw [show r1.tx = noTx from by first | (show r1.tx = noTx; rw [HR1.out]; show r0.tx = noTx; rw [HRZ.out]; rfl) | (show r0.tx = noTx; rw [HRZ.out]; rfl)]; exact Nat.zero_le _⟩
    by_cases hk4 : k = 4
    · have hk := hk4
      have c1 : (k == 1) = false := by rw [hk]; decide
      have c2 : (k == 2) = false := by rw [hk]; decide
      have c3 : (k == 3) = false := by rw [hk]; decide
      have c4 : (k == 4) = true := by rw [hk]; decide
      obtain ⟨y1, hy1⟩ : ∃ y, y = pointS x2 := ⟨_, rfl⟩
      obtain ⟨ii, hii⟩ : ∃ y, y = bL (takeR 32 x2).2 := ⟨_, rfl⟩
      obtain ⟨ix, hix⟩ : ∃ y, y = pointN x2 := ⟨_, rfl⟩
      have HLY1 := hid (show y1.t.length ≤ 9223372036854775000 from by rw [hy1]; exact Nat.le_trans (Nat.le_trans (takeR_le 4 _) (takeR_le 32 x2)) HL2.out)
      have NT := hid (show ∀ y : World, PdAt Y x2 y → Calls Tryz.prog 112 #[.pointer (some ⟨Y, 0, none⟩)] y (PdIs Y y1 (.agg #[.string ii, .int .u32 ix]) y) from fun y hy => by rw [hy1, hii, hix]; exact rpoint_any Y x2 y hy HL2.out)
      obtain ⟨y2, hy2⟩ : ∃ y, y = (numI 2 y1).1 := ⟨_, rfl⟩
      obtain ⟨v1, hv1⟩ : ∃ y, y = (numI 2 y1).2 := ⟨_, rfl⟩
      have HLY2 := hid (show y2.t.length ≤ 9223372036854775000 from by rw [hy2]; exact Nat.le_trans (takeR_le 2 y1) HLY1.out)
      have NN1 := hid (show ∀ y : World, PdAt Y y1 y → Calls Tryz.prog 109 #[.pointer (some ⟨Y, 0, none⟩), .int .i64 2] y (PdIs Y y2 (.int .i64 v1) y) from fun y hy => by rw [hy2, hv1]; exact rnum_any Y y1 2 y hy (by unfold okSize; decide) HLY1.out)
      obtain ⟨y3, hy3⟩ : ∃ y, y = (numI 8 y2).1 := ⟨_, rfl⟩
      obtain ⟨v2, hv2⟩ : ∃ y, y = (numI 8 y2).2 := ⟨_, rfl⟩
      have HLY3 := hid (show y3.t.length ≤ 9223372036854775000 from by rw [hy3]; exact Nat.le_trans (takeR_le 8 y2) HLY2.out)
      have NN2 := hid (show ∀ y : World, PdAt Y y2 y → Calls Tryz.prog 109 #[.pointer (some ⟨Y, 0, none⟩), .int .i64 8] y (PdIs Y y3 (.int .i64 v2) y) from fun y hy => by rw [hy3, hv2]; exact rnum_any Y y2 8 y hy (by unfold okSize; decide) HLY2.out)
      obtain ⟨r1, hr1⟩ : ∃ r : PRec, r = { r0 with id := ii, idx := ix, index := v1, fee := v2 } := ⟨_, rfl⟩
      have HE := hid (show bodyP r0 x2 = (y3, r1) from by unfold bodyP; rw [if_neg (by rw [HR0K.out, hk]; decide), if_neg (by rw [HR0K.out, hk]; decide), if_neg (by rw [HR0K.out, hk]; decide), if_pos (by rw [HR0K.out]; exact hk)]; simp only [pointP_eq, ← hy1, ← hii, ← hix, ← hy2, ← hv1, ← hy3, ← hv2, hr1])
      have HR1 := hid hr1
      have HR := HR0
      clear hk1 hk2 hk3 hk4 hk hy1 hii hix hr1 hy2 hv1 hy3 hv2
      go_wp2_with fail
      refine (NT.out w3 HP.out).mono ?_
      rintro e w4 ⟨rfl, hp, hf⟩
      have HP := hid hp
      have HR := hid ((hf.block R (Array.getElem?_eq_some_iff.1 HR.out).1 (by have := HRY.out; simpa using this)).trans HR.out)
      have HF := hid (HF.out.trans' (hf.mono (F' := [Y, R]) (fun j hj => .inl (by simp at hj; simp [hj]))))
      clear hp hf
      go_wp2_with fail
      refine (NN1.out w4 HP.out).mono ?_
      rintro e w5 ⟨rfl, hp, hf⟩
      have HP := hid hp
      have HR := hid ((hf.block R (Array.getElem?_eq_some_iff.1 HR.out).1 (by have := HRY.out; simpa using this)).trans HR.out)
      have HF := hid (HF.out.trans' (hf.mono (F' := [Y, R]) (fun j hj => .inl (by simp at hj; simp [hj]))))
      clear hp hf
      go_wp2_with fail
      refine (NN2.out w5 HP.out).mono ?_
      rintro e w6 ⟨rfl, hp, hf⟩
      have HP := hid hp
      have HR := hid ((hf.block R (Array.getElem?_eq_some_iff.1 HR.out).1 (by have := HRY.out; simpa using this)).trans HR.out)
      have HF := hid (HF.out.trans' (hf.mono (F' := [Y, R]) (fun j hj => .inl (by simp at hj; simp [hj]))))
      clear hp hf
      have d7 : w6.cell? ⟨R, 7, none⟩ = some (.string r0.id) := cell_at HR.out
      have f7 : w6.frozen? ⟨R, 7, none⟩ = false := free_at HR.out
      have d8 : w6.cell? ⟨R, 8, none⟩ = some (.int .u32 r0.idx) := cell_at HR.out
      have f8 : w6.frozen? ⟨R, 8, none⟩ = false := free_at HR.out
      have d6 : w6.cell? ⟨R, 6, none⟩ = some (.int .i64 r0.index) := cell_at HR.out
      have f6 : w6.frozen? ⟨R, 6, none⟩ = false := free_at HR.out
      have d17 : w6.cell? ⟨R, 17, none⟩ = some (.int .i64 r0.fee) := cell_at HR.out
      have f17 : w6.frozen? ⟨R, 17, none⟩ = false := free_at HR.out
      obtain ⟨z1, z2, -⟩ := stores_spec [(7, .string ii), (8, .int .u32 ix), (6, .int .i64 v1), (17, .int .i64 v2)] HR.out
      have HP := hid (show PdAt Y _ (stores w6 R [(7, .string ii), (8, .int .u32 ix), (6, .int .i64 v1), (17, .int .i64 v2)]) from (z2 Y (fun e => HRY.out e.symm)).trans HP.out)
      have HR := hid (show (stores w6 R [(7, .string ii), (8, .int .u32 ix), (6, .int .i64 v1), (17, .int .i64 v2)]).heap[R]? = some (.cells #[.int .i64 r1.kind, .int .i64 r1.num, .int .u32 r1.tx.ver, .slice none 0 0, .slice none 0 0, .int .u32 r1.tx.lock, .int .i64 r1.index, .string r1.id, .int .u32 r1.idx, .int .i64 r1.val, .int .i64 r1.br, .int .u16 r1.tag, .int .u16 r1.delay, .int .u32 r1.height, .int .i64 r1.dead, .int .i64 r1.budget, .int .i64 r1.start, .int .i64 r1.fee] 35 (0, 0)) from by rw [HR1.out]; exact z1)
      have HF := hid (HF.out.trans' (stores_fr (b := R) (by simp) [(7, .string ii), (8, .int .u32 ix), (6, .int .i64 v1), (17, .int .i64 v2)] w6))
      clear z1 z2
      go_wp2_with fail
      go_meet
      rw [HE.out]
      have HX := hid ((HF.out.block X (Array.getElem?_eq_some_iff.1 HX.out).1 (by have := HXS.out; simp; omega)).trans HX.out)
      exact ⟨⟨w3.heap.size, _, _, HR.out, by have h := noTxQ_own w3.heap.size (stores w6 R [(7, .string ii), (8, .int .u32 ix), (6, .int .i64 v1), (17, .int .i64 v2)]); rw [show r1.tx = noTx from by first | (show r1.tx = noTx; rw [HR1.out]; show r0.tx = noTx; rw [HRZ.out]; rfl) | (show r0.tx = noTx; rw [HRZ.out]; rfl)]; exact h, by have := HXS.out; omega, by have := HXS.out; omega, by have := HXS.out; omega⟩, HP.out, HX.out, HF.out, by rw [show r1.tx = noTx from by first | (show r1.tx = noTx; rw [HR1.out]; show r0.tx = noTx; rw [HRZ.out]; rfl) | (show r0.tx = noTx; rw [HRZ.out]; rfl)]; exact Nat.zero_le _⟩
    · skip
      have HE := hid (show bodyP r0 x2 = (x2, r0) from by unfold bodyP; rw [if_neg (by rw [HR0K.out]; exact hk1), if_neg (by rw [HR0K.out]; exact hk2), if_neg (by rw [HR0K.out]; exact hk3), if_neg (by rw [HR0K.out]; exact hk4)])
      have c1 : (k == 1) = false := by simpa using hk1
      have c2 : (k == 2) = false := by simpa using hk2
      have c3 : (k == 3) = false := by simpa using hk3
      have c4 : (k == 4) = false := by simpa using hk4
      clear hk1 hk2 hk3 hk4
      have HR := HR0
      go_wp2_with fail
      go_meet
      rw [HE.out]
      have HX := hid ((HF.out.block X (Array.getElem?_eq_some_iff.1 HX.out).1 (by have := HXS.out; simp; omega)).trans HX.out)
      exact ⟨⟨w3.heap.size, _, _, HR.out, by have h := noTxQ_own w3.heap.size w3; rw [show r0.tx = noTx from by first | (show r1.tx = noTx; rw [HR1.out]; show r0.tx = noTx; rw [HRZ.out]; rfl) | (show r0.tx = noTx; rw [HRZ.out]; rfl)]; exact h, by have := HXS.out; omega, by have := HXS.out; omega, by have := HXS.out; omega⟩, HP.out, HX.out, HF.out, by rw [show r0.tx = noTx from by first | (show r1.tx = noTx; rw [HR1.out]; show r0.tx = noTx; rw [HRZ.out]; rfl) | (show r0.tx = noTx; rw [HRZ.out]; rfl)]; exact Nat.zero_le _⟩
  case rest =>
    obtain ⟨⟨t', ok⟩, hxf⟩ : ∃ xf, xf = (bodyP r0 x2).1 := ⟨_, rfl⟩
    obtain ⟨rf, hrf⟩ : ∃ rf, rf = (bodyP r0 x2).2 := ⟨_, rfl⟩
    rw [← hxf, ← hrf] at hcut
    have hpar : parseP l = (⟨t', ok⟩, rf) := by rw [HPP.out, hxf, hrf]
    have hr0k : r0.Ok := by
      rw [HRZ.out]
      have z := i64R0
      exact ⟨HKI.out.1, HKI.out.2, z32, z32, z, zid, z32, z, z, z16, z16, z32, z, z, z, z⟩
    have hrfk : rf.tx.ver < 4294967296 → rf.tx.lock < 4294967296 → rf.Ok := by rw [hrf]; exact bodyP_ok hr0k x2
    clear hxf hrf
    obtain ⟨⟨B, va, vb, hR, hO, hXB, hYB, hRB⟩, hrd, hX, hfr, houts⟩ := hcut
    have hrok : rf.Ok := hrfk hO.ver hO.lock
    obtain ⟨ia, ic, rfl, -, -⟩ := hO.at_.1.shape
    obtain ⟨oa, oc, rfl, -, -⟩ := hO.at_.2.shape
    obtain ⟨st, hst⟩ : ∃ st, st = bL t' := ⟨_, rfl⟩
    have hRY : wc.heap[Y]? = some (.cells #[.string st, .bool ok] 147 (0, 0)) := hst ▸ hrd
    have HPAR := hid hpar
    have hrdb := HB.out.trans (hfr.below HB.out.size (by intro j hj; have := HXS.out; simp at hj; omega))
    have HBC := hid hrdb
    have HNE := hid (show X ≠ Y ∧ X ≠ R from by have := HXS.out; omega)
    have hW := W14.start hR hO hRY hX HNE.out.1 HNE.out.2 hXB hrok
    have HW := hid hW
    have HOUT := hid houts
    have HST := hid hst
    clear hR hO hXB hYB hRB hrd hX hfr houts hst hRY hpar hrdb hW HR0 HX HP HB hrfk hr0k hrok
    cases ok with
    | false =>
      go_upto_region 14 with fail
      refine wp_region_valsg (RL14 (v14a X Y st rf ia oa ic oc 0)) (W14 X Y R st false rf (.slice ia rf.tx.ins.length ic) (.slice oa rf.tx.outs.length oc) wc) (by kernel_rfl) (by kernel_rfl) (by kernel_rfl) HW.out.drew ?_ ?_
      · intro i o hi ho L xs wr hmd hw hni hpre
        obtain ⟨x0, x1, x2, x3, x4, x5, x6, x7, x8, x9, x10, x11, x12, x13, x14, x15, x16, x17, x18, rfl⟩ : ∃ x0 x1 x2 x3 x4 x5 x6 x7 x8 x9 x10 x11 x12 x13 x14 x15 x16 x17 x18, xs = [x0, x1, x2, x3, x4, x5, x6, x7, x8, x9, x10, x11, x12, x13, x14, x15, x16, x17, x18] := by match xs, hmd.len with | [x0, x1, x2, x3, x4, x5, x6, x7, x8, x9, x10, x11, x12, x13, x14, x15, x16, x17, x18], _ => exact ⟨_, _, _, _, _, _, _, _, _, _, _, _, _, _, _, _, _, _, _, rfl⟩
        match i, ho with
        | 0, ho =>
          obtain rfl := Option.some.inj ho
          refine Or.inl ⟨by kernel_rfl, ?_⟩
          have hrow := hw.rcd
          have kk := fun lx ox ax => vstep_lrow (P := Tryz.prog) (l := lx) (xs := [x0, x1, x2, x3, x4, x5, x6, x7, x8, x9, x10, x11, x12, x13, x14, x15, x16, x17, x18]) (R := (RL14 (v14a X Y st rf ia oa ic oc 0))) (W := (W14 X Y R st false rf (.slice ia rf.tx.ins.length ic) (.slice oa rf.tx.outs.length oc) wc)) (L := L) (o := ox) (a := ax) (w := wr) (i := 0) 35 (.tmp 5) R 35 #[.int .i64 rf.kind, .int .i64 rf.num, .int .u32 rf.tx.ver, .slice ia rf.tx.ins.length ic, .slice oa rf.tx.outs.length oc, .int .u32 rf.tx.lock, .int .i64 rf.index, .string rf.id, .int .u32 rf.idx, .int .i64 rf.val, .int .i64 rf.br, .int .u16 rf.tag, .int .u16 rf.delay, .int .u32 rf.height, .int .i64 rf.dead, .int .i64 rf.budget, .int .i64 rf.start, .int .i64 rf.fee] (0, 0) _ Tryz.underlying35 rfl
          refine kk _ _ _ ?_ ?_ ?_ ?_ ?_ ?_
          · exact rfl
          · kernel_rfl
          · exact hrow
          · kernel_rfl
          · exact rfl
          · exact hw.add 0 (by decide)
        | 1, ho =>
          obtain rfl := Option.some.inj ho
          refine Or.inl ⟨by kernel_rfl, ?_⟩
          have kk := fun lx ox ax => vstep_run (P := Tryz.prog) (l := lx) (xs := [x0, x1, x2, x3, x4, x5, x6, x7, x8, x9, x10, x11, x12, x13, x14, x15, x16, x17, x18]) (R := (RL14 (v14a X Y st rf ia oa ic oc 0))) (W := (W14 X Y R st false rf (.slice ia rf.tx.ins.length ic) (.slice oa rf.tx.outs.length oc) wc)) (L := L) (o := ox) (a := ax) (w := wr) (i := 1) (w' := wr) (.pointer (some ⟨Y, 0, none⟩))
          refine kk _ _ _ ?_ ?_ ?_
          · kernel_rfl
          · exact rfl
          · exact hw.add 1 (by decide)
        | 2, ho =>
          obtain rfl := Option.some.inj ho
          have h_1 : x1 = .pointer (some ⟨Y, 0, none⟩) := hmd.rel 1 (hpre 1 (by kernel_rfl))
          subst h_1
          refine Or.inl ⟨by kernel_rfl, ?_⟩
          have kk := fun lx ox ax => vstep_run (P := Tryz.prog) (l := lx) (xs := [x0, (.pointer (some ⟨Y, 0, none⟩)), x2, x3, x4, x5, x6, x7, x8, x9, x10, x11, x12, x13, x14, x15, x16, x17, x18]) (R := (RL14 (v14a X Y st rf ia oa ic oc 0))) (W := (W14 X Y R st false rf (.slice ia rf.tx.ins.length ic) (.slice oa rf.tx.outs.length oc) wc)) (L := L) (o := ox) (a := ax) (w := wr) (i := 2) (w' := wr) (.pointer (some ⟨Y, 0, none⟩))
          refine kk _ _ _ ?_ ?_ ?_
          · kernel_rfl
          · exact rfl
          · exact hw.add 2 (by decide)
        | 3, ho =>
          obtain rfl := Option.some.inj ho
          have h_2 : x2 = .pointer (some ⟨Y, 0, none⟩) := hmd.rel 2 (hpre 2 (by kernel_rfl))
          subst h_2
          refine Or.inl ⟨by kernel_rfl, ?_⟩
          have kk := fun lx ox ax => vstep_run (P := Tryz.prog) (l := lx) (xs := [x0, x1, (.pointer (some ⟨Y, 0, none⟩)), x3, x4, x5, x6, x7, x8, x9, x10, x11, x12, x13, x14, x15, x16, x17, x18]) (R := (RL14 (v14a X Y st rf ia oa ic oc 0))) (W := (W14 X Y R st false rf (.slice ia rf.tx.ins.length ic) (.slice oa rf.tx.outs.length oc) wc)) (L := L) (o := ox) (a := ax) (w := wr) (i := 3) (w' := wr) (.pointer (some ⟨Y, 1, none⟩))
          refine kk _ _ _ ?_ ?_ ?_
          · kernel_rfl
          · exact rfl
          · exact hw.add 3 (by decide)
        | 4, ho =>
          obtain rfl := Option.some.inj ho
          have h_3 : x3 = .pointer (some ⟨Y, 1, none⟩) := hmd.rel 3 (hpre 3 (by kernel_rfl))
          subst h_3
          refine Or.inl ⟨by kernel_rfl, ?_⟩
          have kk := fun lx ox ax => vstep_run (P := Tryz.prog) (l := lx) (xs := [x0, x1, x2, (.pointer (some ⟨Y, 1, none⟩)), x4, x5, x6, x7, x8, x9, x10, x11, x12, x13, x14, x15, x16, x17, x18]) (R := (RL14 (v14a X Y st rf ia oa ic oc 0))) (W := (W14 X Y R st false rf (.slice ia rf.tx.ins.length ic) (.slice oa rf.tx.outs.length oc) wc)) (L := L) (o := ox) (a := ax) (w := wr) (i := 4) (w' := wr) (.bool false)
          refine kk _ _ _ ?_ ?_ ?_
          · (have y1 : wr.cell? ⟨Y, 1, none⟩ = some (.bool false) := cell_at hw.rd; simp [putAll, execOp, go_sem, y1])
          · exact rfl
          · exact hw.add 4 (by decide)
        | 5, ho =>
          obtain rfl := Option.some.inj ho
          have h_4 : x4 = .bool false := hmd.rel 4 (hpre 4 (by kernel_rfl))
          subst h_4
          refine Or.inl ⟨by kernel_rfl, ?_⟩
          have kk := fun lx ox ax => vstep_run (P := Tryz.prog) (l := lx) (xs := [x0, x1, x2, x3, (.bool false), x5, x6, x7, x8, x9, x10, x11, x12, x13, x14, x15, x16, x17, x18]) (R := (RL14 (v14a X Y st rf ia oa ic oc 0))) (W := (W14 X Y R st false rf (.slice ia rf.tx.ins.length ic) (.slice oa rf.tx.outs.length oc) wc)) (L := L) (o := ox) (a := ax) (w := wr) (i := 5) (w' := wr) (.bool false)
          refine kk _ _ _ ?_ ?_ ?_
          · kernel_rfl
          · exact rfl
          · exact hw.add 5 (by decide)
        | 6, ho =>
          obtain rfl := Option.some.inj ho
          have h_5 : x5 = .bool false := hmd.rel 5 (hpre 5 (by kernel_rfl))
          subst h_5
          refine Or.inr ⟨?_, ?_, ?_⟩
          · kernel_rfl
          · exact rfl
          · exact hw.add 6 (by decide)
        | 7, ho =>
          obtain rfl := Option.some.inj ho
          have h_5 : x5 = .bool false := hmd.rel 5 (hpre 5 (by kernel_rfl))
          subst h_5
          refine Or.inr ⟨?_, ?_, ?_⟩
          · kernel_rfl
          · exact rfl
          · exact hw.add 7 (by decide)
        | 8, ho =>
          obtain rfl := Option.some.inj ho
          have h_5 : x5 = .bool false := hmd.rel 5 (hpre 5 (by kernel_rfl))
          subst h_5
          refine Or.inr ⟨?_, ?_, ?_⟩
          · kernel_rfl
          · exact rfl
          · exact hw.add 8 (by decide)
        | 9, ho =>
          obtain rfl := Option.some.inj ho
          have h_5 : x5 = .bool false := hmd.rel 5 (hpre 5 (by kernel_rfl))
          subst h_5
          refine Or.inr ⟨?_, ?_, ?_⟩
          · kernel_rfl
          · exact rfl
          · exact hw.add 9 (by decide)
        | 10, ho =>
          obtain rfl := Option.some.inj ho
          have h_5 : x5 = .bool false := hmd.rel 5 (hpre 5 (by kernel_rfl))
          subst h_5
          refine Or.inr ⟨?_, ?_, ?_⟩
          · kernel_rfl
          · exact rfl
          · exact hw.add 10 (by decide)
        | 11, ho =>
          obtain rfl := Option.some.inj ho
          have h_5 : x5 = .bool false := hmd.rel 5 (hpre 5 (by kernel_rfl))
          subst h_5
          have h_10 : x10 = undef := hmd.rel 10 (hpre 10 (by kernel_rfl))
          subst h_10
          refine Or.inl ⟨by kernel_rfl, ?_⟩
          have kk := fun lx ox ax => vstep_run (P := Tryz.prog) (l := lx) (xs := [x0, x1, x2, x3, x4, (.bool false), x6, x7, x8, x9, (undef), x11, x12, x13, x14, x15, x16, x17, x18]) (R := (RL14 (v14a X Y st rf ia oa ic oc 0))) (W := (W14 X Y R st false rf (.slice ia rf.tx.ins.length ic) (.slice oa rf.tx.outs.length oc) wc)) (L := L) (o := ox) (a := ax) (w := wr) (i := 11) (w' := wr) (.bool false)
          refine kk _ _ _ ?_ ?_ ?_
          · kernel_rfl
          · exact rfl
          · exact hw.add 11 (by decide)
        | 12, ho =>
          obtain rfl := Option.some.inj ho
          have h_11 : x11 = .bool false := hmd.rel 11 (hpre 11 (by kernel_rfl))
          subst h_11
          refine Or.inl ⟨by kernel_rfl, ?_⟩
          have kk := fun lx ox ax => vstep_run (P := Tryz.prog) (l := lx) (xs := [x0, x1, x2, x3, x4, x5, x6, x7, x8, x9, x10, (.bool false), x12, x13, x14, x15, x16, x17, x18]) (R := (RL14 (v14a X Y st rf ia oa ic oc 0))) (W := (W14 X Y R st false rf (.slice ia rf.tx.ins.length ic) (.slice oa rf.tx.outs.length oc) wc)) (L := L) (o := ox) (a := ax) (w := wr) (i := 12) (w' := wr) (.bool false)
          refine kk _ _ _ ?_ ?_ ?_
          · kernel_rfl
          · exact rfl
          · exact hw.add 12 (by decide)
        | 13, ho =>
          obtain rfl := Option.some.inj ho
          have h_12 : x12 = .bool false := hmd.rel 12 (hpre 12 (by kernel_rfl))
          subst h_12
          refine Or.inr ⟨?_, ?_, ?_⟩
          · kernel_rfl
          · exact rfl
          · exact hw.add 13 (by decide)
        | 14, ho =>
          obtain rfl := Option.some.inj ho
          have h_12 : x12 = .bool false := hmd.rel 12 (hpre 12 (by kernel_rfl))
          subst h_12
          refine Or.inr ⟨?_, ?_, ?_⟩
          · kernel_rfl
          · exact rfl
          · exact hw.add 14 (by decide)
        | 15, ho =>
          obtain rfl := Option.some.inj ho
          have h_12 : x12 = .bool false := hmd.rel 12 (hpre 12 (by kernel_rfl))
          subst h_12
          refine Or.inr ⟨?_, ?_, ?_⟩
          · kernel_rfl
          · exact rfl
          · exact hw.add 15 (by decide)
        | 16, ho =>
          obtain rfl := Option.some.inj ho
          have h_12 : x12 = .bool false := hmd.rel 12 (hpre 12 (by kernel_rfl))
          subst h_12
          have h_15 : x15 = undef := hmd.rel 15 (hpre 15 (by kernel_rfl))
          subst h_15
          refine Or.inl ⟨by kernel_rfl, ?_⟩
          have kk := fun lx ox ax => vstep_run (P := Tryz.prog) (l := lx) (xs := [x0, x1, x2, x3, x4, x5, x6, x7, x8, x9, x10, x11, (.bool false), x13, x14, (undef), x16, x17, x18]) (R := (RL14 (v14a X Y st rf ia oa ic oc 0))) (W := (W14 X Y R st false rf (.slice ia rf.tx.ins.length ic) (.slice oa rf.tx.outs.length oc) wc)) (L := L) (o := ox) (a := ax) (w := wr) (i := 16) (w' := wr) (.bool false)
          refine kk _ _ _ ?_ ?_ ?_
          · kernel_rfl
          · exact rfl
          · exact hw.add 16 (by decide)
        | 17, ho =>
          obtain rfl := Option.some.inj ho
          have h_0 : x0 = .agg #[.int .i64 rf.kind, .int .i64 rf.num, .int .u32 rf.tx.ver, .slice ia rf.tx.ins.length ic, .slice oa rf.tx.outs.length oc, .int .u32 rf.tx.lock, .int .i64 rf.index, .string rf.id, .int .u32 rf.idx, .int .i64 rf.val, .int .i64 rf.br, .int .u16 rf.tag, .int .u16 rf.delay, .int .u32 rf.height, .int .i64 rf.dead, .int .i64 rf.budget, .int .i64 rf.start, .int .i64 rf.fee] := hmd.rel 0 (hpre 0 (by kernel_rfl))
          subst h_0
          refine Or.inl ⟨by kernel_rfl, ?_⟩
          have hold := hw.old hni
          have kk := fun lx ox ax => vstep_srow (P := Tryz.prog) (l := lx) (xs := [(.agg #[.int .i64 rf.kind, .int .i64 rf.num, .int .u32 rf.tx.ver, .slice ia rf.tx.ins.length ic, .slice oa rf.tx.outs.length oc, .int .u32 rf.tx.lock, .int .i64 rf.index, .string rf.id, .int .u32 rf.idx, .int .i64 rf.val, .int .i64 rf.br, .int .u16 rf.tag, .int .u16 rf.delay, .int .u32 rf.height, .int .i64 rf.dead, .int .i64 rf.budget, .int .i64 rf.start, .int .i64 rf.fee]), x1, x2, x3, x4, x5, x6, x7, x8, x9, x10, x11, x12, x13, x14, x15, x16, x17, x18]) (R := (RL14 (v14a X Y st rf ia oa ic oc 0))) (W := (W14 X Y R st false rf (.slice ia rf.tx.ins.length ic) (.slice oa rf.tx.outs.length oc) wc)) (L := L) (o := ox) (a := ax) (w := wr) (i := 17) 35 (.tmp 2) (.tmp 56) X #[.int .i64 rf.kind, .int .i64 rf.num, .int .u32 rf.tx.ver, .slice ia rf.tx.ins.length ic, .slice oa rf.tx.outs.length oc, .int .u32 rf.tx.lock, .int .i64 rf.index, .string rf.id, .int .u32 rf.idx, .int .i64 rf.val, .int .i64 rf.br, .int .u16 rf.tag, .int .u16 rf.delay, .int .u32 rf.height, .int .i64 rf.dead, .int .i64 rf.budget, .int .i64 rf.start, .int .i64 rf.fee] 35 #[.int .i64 0, .int .i64 0, .int .u32 0, .slice none 0 0, .slice none 0 0, .int .u32 0, .int .i64 0, .string ⟨#[]⟩, .int .u32 0, .int .i64 0, .int .i64 0, .int .u16 0, .int .u16 0, .int .u32 0, .int .i64 0, .int .i64 0, .int .i64 0, .int .i64 0]
          refine kk _ _ _ ?_ ?_ ?_ ?_ ?_ ?_ ?_ ?_ ?_
          · exact rfl
          · kernel_rfl
          · kernel_rfl
          · exact hold
          · kernel_rfl
          · exact rfl
          · kernel_rfl
          · exact rfl
          · exact hw.store hni
        | 18, ho =>
          obtain rfl := Option.some.inj ho
          have h_16 : x16 = .bool false := hmd.rel 16 (hpre 16 (by kernel_rfl))
          subst h_16
          refine Or.inl ⟨by kernel_rfl, ?_⟩
          have kk := fun lx ox ax => vstep_run (P := Tryz.prog) (l := lx) (xs := [x0, x1, x2, x3, x4, x5, x6, x7, x8, x9, x10, x11, x12, x13, x14, x15, (.bool false), x17, x18]) (R := (RL14 (v14a X Y st rf ia oa ic oc 0))) (W := (W14 X Y R st false rf (.slice ia rf.tx.ins.length ic) (.slice oa rf.tx.outs.length oc) wc)) (L := L) (o := ox) (a := ax) (w := wr) (i := 18) (w' := wr) (.bool false)
          refine kk _ _ _ ?_ ?_ ?_
          · kernel_rfl
          · exact rfl
          · exact hw.add 18 (by decide)
        | q + 19, ho => exact absurd (List.getElem?_eq_some_iff.1 ho).1 (by simp)
      · intro xs wr hmd hw
        obtain ⟨x0, x1, x2, x3, x4, x5, x6, x7, x8, x9, x10, x11, x12, x13, x14, x15, x16, x17, x18, rfl⟩ : ∃ x0 x1 x2 x3 x4 x5 x6 x7 x8 x9 x10 x11 x12 x13 x14 x15 x16 x17 x18, xs = [x0, x1, x2, x3, x4, x5, x6, x7, x8, x9, x10, x11, x12, x13, x14, x15, x16, x17, x18] := by match xs, hmd.len with | [x0, x1, x2, x3, x4, x5, x6, x7, x8, x9, x10, x11, x12, x13, x14, x15, x16, x17, x18], _ => exact ⟨_, _, _, _, _, _, _, _, _, _, _, _, _, _, _, _, _, _, _, rfl⟩
        obtain rfl : x0 = .agg #[.int .i64 rf.kind, .int .i64 rf.num, .int .u32 rf.tx.ver, .slice ia rf.tx.ins.length ic, .slice oa rf.tx.outs.length oc, .int .u32 rf.tx.lock, .int .i64 rf.index, .string rf.id, .int .u32 rf.idx, .int .i64 rf.val, .int .i64 rf.br, .int .u16 rf.tag, .int .u16 rf.delay, .int .u32 rf.height, .int .i64 rf.dead, .int .i64 rf.budget, .int .i64 rf.start, .int .i64 rf.fee] := hmd.rel 0 (by decide)
        obtain rfl : x1 = .pointer (some ⟨Y, 0, none⟩) := hmd.rel 1 (by decide)
        obtain rfl : x2 = .pointer (some ⟨Y, 0, none⟩) := hmd.rel 2 (by decide)
        obtain rfl : x3 = .pointer (some ⟨Y, 1, none⟩) := hmd.rel 3 (by decide)
        obtain rfl : x4 = .bool false := hmd.rel 4 (by decide)
        obtain rfl : x5 = .bool false := hmd.rel 5 (by decide)
        obtain rfl : x6 = undef := hmd.rel 6 (by decide)
        obtain rfl : x7 = undef := hmd.rel 7 (by decide)
        obtain rfl : x8 = undef := hmd.rel 8 (by decide)
        obtain rfl : x9 = undef := hmd.rel 9 (by decide)
        obtain rfl : x10 = undef := hmd.rel 10 (by decide)
        obtain rfl : x11 = .bool false := hmd.rel 11 (by decide)
        obtain rfl : x12 = .bool false := hmd.rel 12 (by decide)
        obtain rfl : x13 = undef := hmd.rel 13 (by decide)
        obtain rfl : x14 = undef := hmd.rel 14 (by decide)
        obtain rfl : x15 = undef := hmd.rel 15 (by decide)
        obtain rfl : x16 = .bool false := hmd.rel 16 (by decide)
        obtain rfl : x17 = undef := hmd.rel 17 (by decide)
        obtain rfl : x18 = .bool false := hmd.rel 18 (by decide)
        generalize hF : putAll _ _ _ = F
        have h2 : F.tmps.getD 2 undef = .pointer (some ⟨X, 0, none⟩) := by rw [← hF]; kernel_rfl
        have h3 : F.tmps.getD 3 undef = .bool false := by rw [← hF]; kernel_rfl
        have h4 : F.defers = [] := by rw [← hF]; kernel_rfl
        clear hF hmd
        have HWE := hid hw
        have H2 := hid h2
        have H3 := hid h3
        have H4 := hid h4
        clear hw h2 h3 h4
        go_wp2_with fail
        refine bodyPost_ret (v := .tuple #[.agg #[.int .i64 rf.kind, .int .i64 rf.num, .int .u32 rf.tx.ver, .slice ia rf.tx.ins.length ic, .slice oa rf.tx.outs.length oc, .int .u32 rf.tx.lock, .int .i64 rf.index, .string rf.id, .int .u32 rf.idx, .int .i64 rf.val, .int .i64 rf.br, .int .u16 rf.tag, .int .u16 rf.delay, .int .u32 rf.height, .int .i64 rf.dead, .int .i64 rf.budget, .int .i64 rf.start, .int .i64 rf.fee], .bool false]) (results_cell_tmp (P := Tryz.prog) (p := 2) (q := 3) (ty := 35) Tryz.results85 _ _ X 35 #[.int .i64 rf.kind, .int .i64 rf.num, .int .u32 rf.tx.ver, .slice ia rf.tx.ins.length ic, .slice oa rf.tx.outs.length oc, .int .u32 rf.tx.lock, .int .i64 rf.index, .string rf.id, .int .u32 rf.idx, .int .i64 rf.val, .int .i64 rf.br, .int .u16 rf.tag, .int .u16 rf.delay, .int .u32 rf.height, .int .i64 rf.dead, .int .i64 rf.budget, .int .i64 rf.start, .int .i64 rf.fee] (0, 0) _ _ H2.out H3.out HWE.out.new Tryz.underlying35 rfl (by kernel_rfl)) H4.out ?_
        refine ⟨_, by rw [show goodP l = false from by unfold goodP; rw [HPAR.out]; simp], ?_, HBC.out.trans (HWE.out.bel HBC.out.size HXS.out.1)⟩
        rw [HPAR.out]
        exact HWE.out.recOwn HXS.out.1
    | true =>
      by_cases ht : t' = []
      · have HT := hid ht
        obtain rfl : st = ⟨#[]⟩ := by rw [HST.out, ht]; rfl
        obtain ⟨ce, hce⟩ : ∃ c, c = checkR rf := ⟨_, rfl⟩
        have HCE := hid hce
        have HCALL := hid (show ∀ y : World, RecAt y (.agg #[.int .i64 rf.kind, .int .i64 rf.num, .int .u32 rf.tx.ver, .slice ia rf.tx.ins.length ic, .slice oa rf.tx.outs.length oc, .int .u32 rf.tx.lock, .int .i64 rf.index, .string rf.id, .int .u32 rf.idx, .int .i64 rf.val, .int .i64 rf.br, .int .u16 rf.tag, .int .u16 rf.delay, .int .u32 rf.height, .int .i64 rf.dead, .int .i64 rf.budget, .int .i64 rf.start, .int .i64 rf.fee]) rf → Calls Tryz.prog 12 #[.agg #[.int .i64 rf.kind, .int .i64 rf.num, .int .u32 rf.tx.ver, .slice ia rf.tx.ins.length ic, .slice oa rf.tx.outs.length oc, .int .u32 rf.tx.lock, .int .i64 rf.index, .string rf.id, .int .u32 rf.idx, .int .i64 rf.val, .int .i64 rf.br, .int .u16 rf.tag, .int .u16 rf.delay, .int .u32 rf.height, .int .i64 rf.dead, .int .i64 rf.budget, .int .i64 rf.start, .int .i64 rf.fee]] y (CIs ce y) from fun y hy => by rw [hce]; exact reccheck_any _ rf y hy (by have := HOUT.out; omega))
        have HEM := hid (show ((⟨#[]⟩ : ByteArray) == ⟨#[]⟩) = true from by decide)
        clear ht hce
        go_upto_region 14 with fail
        refine wp_region_valsg (RL14 (v14b X Y ⟨#[]⟩ rf ia oa ic oc ce)) (W14 X Y R ⟨#[]⟩ true rf (.slice ia rf.tx.ins.length ic) (.slice oa rf.tx.outs.length oc) wc) (by kernel_rfl) (by kernel_rfl) (by kernel_rfl) HW.out.drew ?_ ?_
        · intro i o hi ho L xs wr hmd hw hni hpre
          obtain ⟨x0, x1, x2, x3, x4, x5, x6, x7, x8, x9, x10, x11, x12, x13, x14, x15, x16, x17, x18, rfl⟩ : ∃ x0 x1 x2 x3 x4 x5 x6 x7 x8 x9 x10 x11 x12 x13 x14 x15 x16 x17 x18, xs = [x0, x1, x2, x3, x4, x5, x6, x7, x8, x9, x10, x11, x12, x13, x14, x15, x16, x17, x18] := by match xs, hmd.len with | [x0, x1, x2, x3, x4, x5, x6, x7, x8, x9, x10, x11, x12, x13, x14, x15, x16, x17, x18], _ => exact ⟨_, _, _, _, _, _, _, _, _, _, _, _, _, _, _, _, _, _, _, rfl⟩
          match i, ho with
          | 0, ho =>
            obtain rfl := Option.some.inj ho
            refine Or.inl ⟨by kernel_rfl, ?_⟩
            have hrow := hw.rcd
            have kk := fun lx ox ax => vstep_lrow (P := Tryz.prog) (l := lx) (xs := [x0, x1, x2, x3, x4, x5, x6, x7, x8, x9, x10, x11, x12, x13, x14, x15, x16, x17, x18]) (R := (RL14 (v14b X Y ⟨#[]⟩ rf ia oa ic oc ce))) (W := (W14 X Y R ⟨#[]⟩ true rf (.slice ia rf.tx.ins.length ic) (.slice oa rf.tx.outs.length oc) wc)) (L := L) (o := ox) (a := ax) (w := wr) (i := 0) 35 (.tmp 5) R 35 #[.int .i64 rf.kind, .int .i64 rf.num, .int .u32 rf.tx.ver, .slice ia rf.tx.ins.length ic, .slice oa rf.tx.outs.length oc, .int .u32 rf.tx.lock, .int .i64 rf.index, .string rf.id, .int .u32 rf.idx, .int .i64 rf.val, .int .i64 rf.br, .int .u16 rf.tag, .int .u16 rf.delay, .int .u32 rf.height, .int .i64 rf.dead, .int .i64 rf.budget, .int .i64 rf.start, .int .i64 rf.fee] (0, 0) _ Tryz.underlying35 rfl
            refine kk _ _ _ ?_ ?_ ?_ ?_ ?_ ?_
            · exact rfl
            · kernel_rfl
            · exact hrow
            · kernel_rfl
            · exact rfl
            · exact hw.add 0 (by decide)
          | 1, ho =>
            obtain rfl := Option.some.inj ho
            refine Or.inl ⟨by kernel_rfl, ?_⟩
            have kk := fun lx ox ax => vstep_run (P := Tryz.prog) (l := lx) (xs := [x0, x1, x2, x3, x4, x5, x6, x7, x8, x9, x10, x11, x12, x13, x14, x15, x16, x17, x18]) (R := (RL14 (v14b X Y ⟨#[]⟩ rf ia oa ic oc ce))) (W := (W14 X Y R ⟨#[]⟩ true rf (.slice ia rf.tx.ins.length ic) (.slice oa rf.tx.outs.length oc) wc)) (L := L) (o := ox) (a := ax) (w := wr) (i := 1) (w' := wr) (.pointer (some ⟨Y, 0, none⟩))
            refine kk _ _ _ ?_ ?_ ?_
            · kernel_rfl
            · exact rfl
            · exact hw.add 1 (by decide)
          | 2, ho =>
            obtain rfl := Option.some.inj ho
            have h_1 : x1 = .pointer (some ⟨Y, 0, none⟩) := hmd.rel 1 (hpre 1 (by kernel_rfl))
            subst h_1
            refine Or.inl ⟨by kernel_rfl, ?_⟩
            have kk := fun lx ox ax => vstep_run (P := Tryz.prog) (l := lx) (xs := [x0, (.pointer (some ⟨Y, 0, none⟩)), x2, x3, x4, x5, x6, x7, x8, x9, x10, x11, x12, x13, x14, x15, x16, x17, x18]) (R := (RL14 (v14b X Y ⟨#[]⟩ rf ia oa ic oc ce))) (W := (W14 X Y R ⟨#[]⟩ true rf (.slice ia rf.tx.ins.length ic) (.slice oa rf.tx.outs.length oc) wc)) (L := L) (o := ox) (a := ax) (w := wr) (i := 2) (w' := wr) (.pointer (some ⟨Y, 0, none⟩))
            refine kk _ _ _ ?_ ?_ ?_
            · kernel_rfl
            · exact rfl
            · exact hw.add 2 (by decide)
          | 3, ho =>
            obtain rfl := Option.some.inj ho
            have h_2 : x2 = .pointer (some ⟨Y, 0, none⟩) := hmd.rel 2 (hpre 2 (by kernel_rfl))
            subst h_2
            refine Or.inl ⟨by kernel_rfl, ?_⟩
            have kk := fun lx ox ax => vstep_run (P := Tryz.prog) (l := lx) (xs := [x0, x1, (.pointer (some ⟨Y, 0, none⟩)), x3, x4, x5, x6, x7, x8, x9, x10, x11, x12, x13, x14, x15, x16, x17, x18]) (R := (RL14 (v14b X Y ⟨#[]⟩ rf ia oa ic oc ce))) (W := (W14 X Y R ⟨#[]⟩ true rf (.slice ia rf.tx.ins.length ic) (.slice oa rf.tx.outs.length oc) wc)) (L := L) (o := ox) (a := ax) (w := wr) (i := 3) (w' := wr) (.pointer (some ⟨Y, 1, none⟩))
            refine kk _ _ _ ?_ ?_ ?_
            · kernel_rfl
            · exact rfl
            · exact hw.add 3 (by decide)
          | 4, ho =>
            obtain rfl := Option.some.inj ho
            have h_3 : x3 = .pointer (some ⟨Y, 1, none⟩) := hmd.rel 3 (hpre 3 (by kernel_rfl))
            subst h_3
            refine Or.inl ⟨by kernel_rfl, ?_⟩
            have kk := fun lx ox ax => vstep_run (P := Tryz.prog) (l := lx) (xs := [x0, x1, x2, (.pointer (some ⟨Y, 1, none⟩)), x4, x5, x6, x7, x8, x9, x10, x11, x12, x13, x14, x15, x16, x17, x18]) (R := (RL14 (v14b X Y ⟨#[]⟩ rf ia oa ic oc ce))) (W := (W14 X Y R ⟨#[]⟩ true rf (.slice ia rf.tx.ins.length ic) (.slice oa rf.tx.outs.length oc) wc)) (L := L) (o := ox) (a := ax) (w := wr) (i := 4) (w' := wr) (.bool true)
            refine kk _ _ _ ?_ ?_ ?_
            · (have y1 : wr.cell? ⟨Y, 1, none⟩ = some (.bool true) := cell_at hw.rd; simp [putAll, execOp, go_sem, y1])
            · exact rfl
            · exact hw.add 4 (by decide)
          | 5, ho =>
            obtain rfl := Option.some.inj ho
            have h_4 : x4 = .bool true := hmd.rel 4 (hpre 4 (by kernel_rfl))
            subst h_4
            refine Or.inl ⟨by kernel_rfl, ?_⟩
            have kk := fun lx ox ax => vstep_run (P := Tryz.prog) (l := lx) (xs := [x0, x1, x2, x3, (.bool true), x5, x6, x7, x8, x9, x10, x11, x12, x13, x14, x15, x16, x17, x18]) (R := (RL14 (v14b X Y ⟨#[]⟩ rf ia oa ic oc ce))) (W := (W14 X Y R ⟨#[]⟩ true rf (.slice ia rf.tx.ins.length ic) (.slice oa rf.tx.outs.length oc) wc)) (L := L) (o := ox) (a := ax) (w := wr) (i := 5) (w' := wr) (.bool true)
            refine kk _ _ _ ?_ ?_ ?_
            · kernel_rfl
            · exact rfl
            · exact hw.add 5 (by decide)
          | 6, ho =>
            obtain rfl := Option.some.inj ho
            have h_5 : x5 = .bool true := hmd.rel 5 (hpre 5 (by kernel_rfl))
            subst h_5
            refine Or.inl ⟨by kernel_rfl, ?_⟩
            have kk := fun lx ox ax => vstep_run (P := Tryz.prog) (l := lx) (xs := [x0, x1, x2, x3, x4, (.bool true), x6, x7, x8, x9, x10, x11, x12, x13, x14, x15, x16, x17, x18]) (R := (RL14 (v14b X Y ⟨#[]⟩ rf ia oa ic oc ce))) (W := (W14 X Y R ⟨#[]⟩ true rf (.slice ia rf.tx.ins.length ic) (.slice oa rf.tx.outs.length oc) wc)) (L := L) (o := ox) (a := ax) (w := wr) (i := 6) (w' := wr) (.pointer (some ⟨Y, 0, none⟩))
            refine kk _ _ _ ?_ ?_ ?_
            · kernel_rfl
            · exact rfl
            · exact hw.add 6 (by decide)
          | 7, ho =>
            obtain rfl := Option.some.inj ho
            have h_5 : x5 = .bool true := hmd.rel 5 (hpre 5 (by kernel_rfl))
            subst h_5
            have h_6 : x6 = .pointer (some ⟨Y, 0, none⟩) := hmd.rel 6 (hpre 6 (by kernel_rfl))
            subst h_6
            refine Or.inl ⟨by kernel_rfl, ?_⟩
            have kk := fun lx ox ax => vstep_run (P := Tryz.prog) (l := lx) (xs := [x0, x1, x2, x3, x4, (.bool true), (.pointer (some ⟨Y, 0, none⟩)), x7, x8, x9, x10, x11, x12, x13, x14, x15, x16, x17, x18]) (R := (RL14 (v14b X Y ⟨#[]⟩ rf ia oa ic oc ce))) (W := (W14 X Y R ⟨#[]⟩ true rf (.slice ia rf.tx.ins.length ic) (.slice oa rf.tx.outs.length oc) wc)) (L := L) (o := ox) (a := ax) (w := wr) (i := 7) (w' := wr) (.pointer (some ⟨Y, 0, none⟩))
            refine kk _ _ _ ?_ ?_ ?_
            · kernel_rfl
            · exact rfl
            · exact hw.add 7 (by decide)
          | 8, ho =>
            obtain rfl := Option.some.inj ho
            have h_5 : x5 = .bool true := hmd.rel 5 (hpre 5 (by kernel_rfl))
            subst h_5
            have h_7 : x7 = .pointer (some ⟨Y, 0, none⟩) := hmd.rel 7 (hpre 7 (by kernel_rfl))
            subst h_7
            refine Or.inl ⟨by kernel_rfl, ?_⟩
            have kk := fun lx ox ax => vstep_run (P := Tryz.prog) (l := lx) (xs := [x0, x1, x2, x3, x4, (.bool true), x6, (.pointer (some ⟨Y, 0, none⟩)), x8, x9, x10, x11, x12, x13, x14, x15, x16, x17, x18]) (R := (RL14 (v14b X Y ⟨#[]⟩ rf ia oa ic oc ce))) (W := (W14 X Y R ⟨#[]⟩ true rf (.slice ia rf.tx.ins.length ic) (.slice oa rf.tx.outs.length oc) wc)) (L := L) (o := ox) (a := ax) (w := wr) (i := 8) (w' := wr) (.pointer (some ⟨Y, 0, none⟩))
            refine kk _ _ _ ?_ ?_ ?_
            · kernel_rfl
            · exact rfl
            · exact hw.add 8 (by decide)
          | 9, ho =>
            obtain rfl := Option.some.inj ho
            have h_5 : x5 = .bool true := hmd.rel 5 (hpre 5 (by kernel_rfl))
            subst h_5
            have h_8 : x8 = .pointer (some ⟨Y, 0, none⟩) := hmd.rel 8 (hpre 8 (by kernel_rfl))
            subst h_8
            refine Or.inl ⟨by kernel_rfl, ?_⟩
            have kk := fun lx ox ax => vstep_run (P := Tryz.prog) (l := lx) (xs := [x0, x1, x2, x3, x4, (.bool true), x6, x7, (.pointer (some ⟨Y, 0, none⟩)), x9, x10, x11, x12, x13, x14, x15, x16, x17, x18]) (R := (RL14 (v14b X Y ⟨#[]⟩ rf ia oa ic oc ce))) (W := (W14 X Y R ⟨#[]⟩ true rf (.slice ia rf.tx.ins.length ic) (.slice oa rf.tx.outs.length oc) wc)) (L := L) (o := ox) (a := ax) (w := wr) (i := 9) (w' := wr) (.string ⟨#[]⟩)
            refine kk _ _ _ ?_ ?_ ?_
            · (have y0 : wr.cell? ⟨Y, 0, none⟩ = some (.string ⟨#[]⟩) := cell_at hw.rd; simp [putAll, execOp, go_sem, y0])
            · exact rfl
            · exact hw.add 9 (by decide)
          | 10, ho =>
            obtain rfl := Option.some.inj ho
            have h_5 : x5 = .bool true := hmd.rel 5 (hpre 5 (by kernel_rfl))
            subst h_5
            have h_9 : x9 = .string ⟨#[]⟩ := hmd.rel 9 (hpre 9 (by kernel_rfl))
            subst h_9
            refine Or.inl ⟨by kernel_rfl, ?_⟩
            have kk := fun lx ox ax => vstep_run (P := Tryz.prog) (l := lx) (xs := [x0, x1, x2, x3, x4, (.bool true), x6, x7, x8, (.string ⟨#[]⟩), x10, x11, x12, x13, x14, x15, x16, x17, x18]) (R := (RL14 (v14b X Y ⟨#[]⟩ rf ia oa ic oc ce))) (W := (W14 X Y R ⟨#[]⟩ true rf (.slice ia rf.tx.ins.length ic) (.slice oa rf.tx.outs.length oc) wc)) (L := L) (o := ox) (a := ax) (w := wr) (i := 10) (w' := wr) (.bool true)
            refine kk _ _ _ ?_ ?_ ?_
            · (have q := HEM.out; simp [putAll, execOp, go_sem, q])
            · exact rfl
            · exact hw.add 10 (by decide)
          | 11, ho =>
            obtain rfl := Option.some.inj ho
            have h_5 : x5 = .bool true := hmd.rel 5 (hpre 5 (by kernel_rfl))
            subst h_5
            have h_10 : x10 = .bool true := hmd.rel 10 (hpre 10 (by kernel_rfl))
            subst h_10
            refine Or.inl ⟨by kernel_rfl, ?_⟩
            have kk := fun lx ox ax => vstep_run (P := Tryz.prog) (l := lx) (xs := [x0, x1, x2, x3, x4, (.bool true), x6, x7, x8, x9, (.bool true), x11, x12, x13, x14, x15, x16, x17, x18]) (R := (RL14 (v14b X Y ⟨#[]⟩ rf ia oa ic oc ce))) (W := (W14 X Y R ⟨#[]⟩ true rf (.slice ia rf.tx.ins.length ic) (.slice oa rf.tx.outs.length oc) wc)) (L := L) (o := ox) (a := ax) (w := wr) (i := 11) (w' := wr) (.bool true)
            refine kk _ _ _ ?_ ?_ ?_
            · kernel_rfl
            · exact rfl
            · exact hw.add 11 (by decide)
          | 12, ho =>
            obtain rfl := Option.some.inj ho
            have h_11 : x11 = .bool true := hmd.rel 11 (hpre 11 (by kernel_rfl))
            subst h_11
            refine Or.inl ⟨by kernel_rfl, ?_⟩
            have kk := fun lx ox ax => vstep_run (P := Tryz.prog) (l := lx) (xs := [x0, x1, x2, x3, x4, x5, x6, x7, x8, x9, x10, (.bool true), x12, x13, x14, x15, x16, x17, x18]) (R := (RL14 (v14b X Y ⟨#[]⟩ rf ia oa ic oc ce))) (W := (W14 X Y R ⟨#[]⟩ true rf (.slice ia rf.tx.ins.length ic) (.slice oa rf.tx.outs.length oc) wc)) (L := L) (o := ox) (a := ax) (w := wr) (i := 12) (w' := wr) (.bool true)
            refine kk _ _ _ ?_ ?_ ?_
            · kernel_rfl
            · exact rfl
            · exact hw.add 12 (by decide)
          | 13, ho =>
            obtain rfl := Option.some.inj ho
            have h_12 : x12 = .bool true := hmd.rel 12 (hpre 12 (by kernel_rfl))
            subst h_12
            refine Or.inl ⟨by kernel_rfl, ?_⟩
            have hrow := hw.rcd
            have kk := fun lx ox ax => vstep_lrow (P := Tryz.prog) (l := lx) (xs := [x0, x1, x2, x3, x4, x5, x6, x7, x8, x9, x10, x11, (.bool true), x13, x14, x15, x16, x17, x18]) (R := (RL14 (v14b X Y ⟨#[]⟩ rf ia oa ic oc ce))) (W := (W14 X Y R ⟨#[]⟩ true rf (.slice ia rf.tx.ins.length ic) (.slice oa rf.tx.outs.length oc) wc)) (L := L) (o := ox) (a := ax) (w := wr) (i := 13) 35 (.tmp 5) R 35 #[.int .i64 rf.kind, .int .i64 rf.num, .int .u32 rf.tx.ver, .slice ia rf.tx.ins.length ic, .slice oa rf.tx.outs.length oc, .int .u32 rf.tx.lock, .int .i64 rf.index, .string rf.id, .int .u32 rf.idx, .int .i64 rf.val, .int .i64 rf.br, .int .u16 rf.tag, .int .u16 rf.delay, .int .u32 rf.height, .int .i64 rf.dead, .int .i64 rf.budget, .int .i64 rf.start, .int .i64 rf.fee] (0, 0) _ Tryz.underlying35 rfl
            refine kk _ _ _ ?_ ?_ ?_ ?_ ?_ ?_
            · exact rfl
            · kernel_rfl
            · exact hrow
            · kernel_rfl
            · exact rfl
            · exact hw.add 13 (by decide)
          | 14, ho =>
            obtain rfl := Option.some.inj ho
            have h_12 : x12 = .bool true := hmd.rel 12 (hpre 12 (by kernel_rfl))
            subst h_12
            have h_13 : x13 = .agg #[.int .i64 rf.kind, .int .i64 rf.num, .int .u32 rf.tx.ver, .slice ia rf.tx.ins.length ic, .slice oa rf.tx.outs.length oc, .int .u32 rf.tx.lock, .int .i64 rf.index, .string rf.id, .int .u32 rf.idx, .int .i64 rf.val, .int .i64 rf.br, .int .u16 rf.tag, .int .u16 rf.delay, .int .u32 rf.height, .int .i64 rf.dead, .int .i64 rf.budget, .int .i64 rf.start, .int .i64 rf.fee] := hmd.rel 13 (hpre 13 (by kernel_rfl))
            subst h_13
            refine Or.inl ⟨by kernel_rfl, ?_⟩
            have hcall := HCALL.out wr hw.recAt
            have kk := fun lx ox ax => vstep_call (P := Tryz.prog) (l := lx) (xs := [x0, x1, x2, x3, x4, x5, x6, x7, x8, x9, x10, x11, (.bool true), (.agg #[.int .i64 rf.kind, .int .i64 rf.num, .int .u32 rf.tx.ver, .slice ia rf.tx.ins.length ic, .slice oa rf.tx.outs.length oc, .int .u32 rf.tx.lock, .int .i64 rf.index, .string rf.id, .int .u32 rf.idx, .int .i64 rf.val, .int .i64 rf.br, .int .u16 rf.tag, .int .u16 rf.delay, .int .u32 rf.height, .int .i64 rf.dead, .int .i64 rf.budget, .int .i64 rf.start, .int .i64 rf.fee]), x14, x15, x16, x17, x18]) (R := (RL14 (v14b X Y ⟨#[]⟩ rf ia oa ic oc ce))) (W := (W14 X Y R ⟨#[]⟩ true rf (.slice ia rf.tx.ins.length ic) (.slice oa rf.tx.outs.length oc) wc)) (L := L) (o := ox) (a := ax) (w := wr) (i := 14) (f := 12) (args := #[.agg #[.int .i64 rf.kind, .int .i64 rf.num, .int .u32 rf.tx.ver, .slice ia rf.tx.ins.length ic, .slice oa rf.tx.outs.length oc, .int .u32 rf.tx.lock, .int .i64 rf.index, .string rf.id, .int .u32 rf.idx, .int .i64 rf.val, .int .i64 rf.br, .int .u16 rf.tag, .int .u16 rf.delay, .int .u32 rf.height, .int .i64 rf.dead, .int .i64 rf.budget, .int .i64 rf.start, .int .i64 rf.fee]]) hcall
            refine kk _ _ _ ?_ ?_
            · kernel_rfl
            · rintro e w' ⟨rfl, hb⟩
              exact ⟨_, rfl, rfl, (hw.below hb).add 14 (by decide)⟩
          | 15, ho =>
            obtain rfl := Option.some.inj ho
            have h_12 : x12 = .bool true := hmd.rel 12 (hpre 12 (by kernel_rfl))
            subst h_12
            have h_14 : x14 = .int .i64 ce := hmd.rel 14 (hpre 14 (by kernel_rfl))
            subst h_14
            refine Or.inl ⟨by kernel_rfl, ?_⟩
            have kk := fun lx ox ax => vstep_run (P := Tryz.prog) (l := lx) (xs := [x0, x1, x2, x3, x4, x5, x6, x7, x8, x9, x10, x11, (.bool true), x13, (.int .i64 ce), x15, x16, x17, x18]) (R := (RL14 (v14b X Y ⟨#[]⟩ rf ia oa ic oc ce))) (W := (W14 X Y R ⟨#[]⟩ true rf (.slice ia rf.tx.ins.length ic) (.slice oa rf.tx.outs.length oc) wc)) (L := L) (o := ox) (a := ax) (w := wr) (i := 15) (w' := wr) (.bool (ce == 0))
            refine kk _ _ _ ?_ ?_ ?_
            · kernel_rfl
            · exact rfl
            · exact hw.add 15 (by decide)
          | 16, ho =>
            obtain rfl := Option.some.inj ho
            have h_12 : x12 = .bool true := hmd.rel 12 (hpre 12 (by kernel_rfl))
            subst h_12
            have h_15 : x15 = .bool (ce == 0) := hmd.rel 15 (hpre 15 (by kernel_rfl))
            subst h_15
            refine Or.inl ⟨by kernel_rfl, ?_⟩
            have kk := fun lx ox ax => vstep_run (P := Tryz.prog) (l := lx) (xs := [x0, x1, x2, x3, x4, x5, x6, x7, x8, x9, x10, x11, (.bool true), x13, x14, (.bool (ce == 0)), x16, x17, x18]) (R := (RL14 (v14b X Y ⟨#[]⟩ rf ia oa ic oc ce))) (W := (W14 X Y R ⟨#[]⟩ true rf (.slice ia rf.tx.ins.length ic) (.slice oa rf.tx.outs.length oc) wc)) (L := L) (o := ox) (a := ax) (w := wr) (i := 16) (w' := wr) (.bool (ce == 0))
            refine kk _ _ _ ?_ ?_ ?_
            · kernel_rfl
            · exact rfl
            · exact hw.add 16 (by decide)
          | 17, ho =>
            obtain rfl := Option.some.inj ho
            have h_0 : x0 = .agg #[.int .i64 rf.kind, .int .i64 rf.num, .int .u32 rf.tx.ver, .slice ia rf.tx.ins.length ic, .slice oa rf.tx.outs.length oc, .int .u32 rf.tx.lock, .int .i64 rf.index, .string rf.id, .int .u32 rf.idx, .int .i64 rf.val, .int .i64 rf.br, .int .u16 rf.tag, .int .u16 rf.delay, .int .u32 rf.height, .int .i64 rf.dead, .int .i64 rf.budget, .int .i64 rf.start, .int .i64 rf.fee] := hmd.rel 0 (hpre 0 (by kernel_rfl))
            subst h_0
            refine Or.inl ⟨by kernel_rfl, ?_⟩
            have hold := hw.old hni
            have kk := fun lx ox ax => vstep_srow (P := Tryz.prog) (l := lx) (xs := [(.agg #[.int .i64 rf.kind, .int .i64 rf.num, .int .u32 rf.tx.ver, .slice ia rf.tx.ins.length ic, .slice oa rf.tx.outs.length oc, .int .u32 rf.tx.lock, .int .i64 rf.index, .string rf.id, .int .u32 rf.idx, .int .i64 rf.val, .int .i64 rf.br, .int .u16 rf.tag, .int .u16 rf.delay, .int .u32 rf.height, .int .i64 rf.dead, .int .i64 rf.budget, .int .i64 rf.start, .int .i64 rf.fee]), x1, x2, x3, x4, x5, x6, x7, x8, x9, x10, x11, x12, x13, x14, x15, x16, x17, x18]) (R := (RL14 (v14b X Y ⟨#[]⟩ rf ia oa ic oc ce))) (W := (W14 X Y R ⟨#[]⟩ true rf (.slice ia rf.tx.ins.length ic) (.slice oa rf.tx.outs.length oc) wc)) (L := L) (o := ox) (a := ax) (w := wr) (i := 17) 35 (.tmp 2) (.tmp 56) X #[.int .i64 rf.kind, .int .i64 rf.num, .int .u32 rf.tx.ver, .slice ia rf.tx.ins.length ic, .slice oa rf.tx.outs.length oc, .int .u32 rf.tx.lock, .int .i64 rf.index, .string rf.id, .int .u32 rf.idx, .int .i64 rf.val, .int .i64 rf.br, .int .u16 rf.tag, .int .u16 rf.delay, .int .u32 rf.height, .int .i64 rf.dead, .int .i64 rf.budget, .int .i64 rf.start, .int .i64 rf.fee] 35 #[.int .i64 0, .int .i64 0, .int .u32 0, .slice none 0 0, .slice none 0 0, .int .u32 0, .int .i64 0, .string ⟨#[]⟩, .int .u32 0, .int .i64 0, .int .i64 0, .int .u16 0, .int .u16 0, .int .u32 0, .int .i64 0, .int .i64 0, .int .i64 0, .int .i64 0]
            refine kk _ _ _ ?_ ?_ ?_ ?_ ?_ ?_ ?_ ?_ ?_
            · exact rfl
            · kernel_rfl
            · kernel_rfl
            · exact hold
            · kernel_rfl
            · exact rfl
            · kernel_rfl
            · exact rfl
            · exact hw.store hni
          | 18, ho =>
            obtain rfl := Option.some.inj ho
            have h_16 : x16 = .bool (ce == 0) := hmd.rel 16 (hpre 16 (by kernel_rfl))
            subst h_16
            refine Or.inl ⟨by kernel_rfl, ?_⟩
            have kk := fun lx ox ax => vstep_run (P := Tryz.prog) (l := lx) (xs := [x0, x1, x2, x3, x4, x5, x6, x7, x8, x9, x10, x11, x12, x13, x14, x15, (.bool (ce == 0)), x17, x18]) (R := (RL14 (v14b X Y ⟨#[]⟩ rf ia oa ic oc ce))) (W := (W14 X Y R ⟨#[]⟩ true rf (.slice ia rf.tx.ins.length ic) (.slice oa rf.tx.outs.length oc) wc)) (L := L) (o := ox) (a := ax) (w := wr) (i := 18) (w' := wr) (.bool (ce == 0))
            refine kk _ _ _ ?_ ?_ ?_
            · kernel_rfl
            · exact rfl
            · exact hw.add 18 (by decide)
          | q + 19, ho => exact absurd (List.getElem?_eq_some_iff.1 ho).1 (by simp)
        · intro xs wr hmd hw
          obtain ⟨x0, x1, x2, x3, x4, x5, x6, x7, x8, x9, x10, x11, x12, x13, x14, x15, x16, x17, x18, rfl⟩ : ∃ x0 x1 x2 x3 x4 x5 x6 x7 x8 x9 x10 x11 x12 x13 x14 x15 x16 x17 x18, xs = [x0, x1, x2, x3, x4, x5, x6, x7, x8, x9, x10, x11, x12, x13, x14, x15, x16, x17, x18] := by match xs, hmd.len with | [x0, x1, x2, x3, x4, x5, x6, x7, x8, x9, x10, x11, x12, x13, x14, x15, x16, x17, x18], _ => exact ⟨_, _, _, _, _, _, _, _, _, _, _, _, _, _, _, _, _, _, _, rfl⟩
          obtain rfl : x0 = .agg #[.int .i64 rf.kind, .int .i64 rf.num, .int .u32 rf.tx.ver, .slice ia rf.tx.ins.length ic, .slice oa rf.tx.outs.length oc, .int .u32 rf.tx.lock, .int .i64 rf.index, .string rf.id, .int .u32 rf.idx, .int .i64 rf.val, .int .i64 rf.br, .int .u16 rf.tag, .int .u16 rf.delay, .int .u32 rf.height, .int .i64 rf.dead, .int .i64 rf.budget, .int .i64 rf.start, .int .i64 rf.fee] := hmd.rel 0 (by decide)
          obtain rfl : x1 = .pointer (some ⟨Y, 0, none⟩) := hmd.rel 1 (by decide)
          obtain rfl : x2 = .pointer (some ⟨Y, 0, none⟩) := hmd.rel 2 (by decide)
          obtain rfl : x3 = .pointer (some ⟨Y, 1, none⟩) := hmd.rel 3 (by decide)
          obtain rfl : x4 = .bool true := hmd.rel 4 (by decide)
          obtain rfl : x5 = .bool true := hmd.rel 5 (by decide)
          obtain rfl : x6 = .pointer (some ⟨Y, 0, none⟩) := hmd.rel 6 (by decide)
          obtain rfl : x7 = .pointer (some ⟨Y, 0, none⟩) := hmd.rel 7 (by decide)
          obtain rfl : x8 = .pointer (some ⟨Y, 0, none⟩) := hmd.rel 8 (by decide)
          obtain rfl : x9 = .string ⟨#[]⟩ := hmd.rel 9 (by decide)
          obtain rfl : x10 = .bool true := hmd.rel 10 (by decide)
          obtain rfl : x11 = .bool true := hmd.rel 11 (by decide)
          obtain rfl : x12 = .bool true := hmd.rel 12 (by decide)
          obtain rfl : x13 = .agg #[.int .i64 rf.kind, .int .i64 rf.num, .int .u32 rf.tx.ver, .slice ia rf.tx.ins.length ic, .slice oa rf.tx.outs.length oc, .int .u32 rf.tx.lock, .int .i64 rf.index, .string rf.id, .int .u32 rf.idx, .int .i64 rf.val, .int .i64 rf.br, .int .u16 rf.tag, .int .u16 rf.delay, .int .u32 rf.height, .int .i64 rf.dead, .int .i64 rf.budget, .int .i64 rf.start, .int .i64 rf.fee] := hmd.rel 13 (by decide)
          obtain rfl : x14 = .int .i64 ce := hmd.rel 14 (by decide)
          obtain rfl : x15 = .bool (ce == 0) := hmd.rel 15 (by decide)
          obtain rfl : x16 = .bool (ce == 0) := hmd.rel 16 (by decide)
          obtain rfl : x17 = undef := hmd.rel 17 (by decide)
          obtain rfl : x18 = .bool (ce == 0) := hmd.rel 18 (by decide)
          generalize hF : putAll _ _ _ = F
          have h2 : F.tmps.getD 2 undef = .pointer (some ⟨X, 0, none⟩) := by rw [← hF]; kernel_rfl
          have h3 : F.tmps.getD 3 undef = .bool (ce == 0) := by rw [← hF]; kernel_rfl
          have h4 : F.defers = [] := by rw [← hF]; kernel_rfl
          clear hF hmd
          have HWE := hid hw
          have H2 := hid h2
          have H3 := hid h3
          have H4 := hid h4
          clear hw h2 h3 h4
          go_wp2_with fail
          refine bodyPost_ret (v := .tuple #[.agg #[.int .i64 rf.kind, .int .i64 rf.num, .int .u32 rf.tx.ver, .slice ia rf.tx.ins.length ic, .slice oa rf.tx.outs.length oc, .int .u32 rf.tx.lock, .int .i64 rf.index, .string rf.id, .int .u32 rf.idx, .int .i64 rf.val, .int .i64 rf.br, .int .u16 rf.tag, .int .u16 rf.delay, .int .u32 rf.height, .int .i64 rf.dead, .int .i64 rf.budget, .int .i64 rf.start, .int .i64 rf.fee], .bool (ce == 0)]) (results_cell_tmp (P := Tryz.prog) (p := 2) (q := 3) (ty := 35) Tryz.results85 _ _ X 35 #[.int .i64 rf.kind, .int .i64 rf.num, .int .u32 rf.tx.ver, .slice ia rf.tx.ins.length ic, .slice oa rf.tx.outs.length oc, .int .u32 rf.tx.lock, .int .i64 rf.index, .string rf.id, .int .u32 rf.idx, .int .i64 rf.val, .int .i64 rf.br, .int .u16 rf.tag, .int .u16 rf.delay, .int .u32 rf.height, .int .i64 rf.dead, .int .i64 rf.budget, .int .i64 rf.start, .int .i64 rf.fee] (0, 0) _ _ H2.out H3.out HWE.out.new Tryz.underlying35 rfl (by kernel_rfl)) H4.out ?_
          refine ⟨_, by rw [show goodP l = (ce == 0) from by unfold goodP; rw [HPAR.out]; dsimp only; rw [HT.out, ← HCE.out]; rfl], ?_, HBC.out.trans (HWE.out.bel HBC.out.size HXS.out.1)⟩
          rw [HPAR.out]
          exact HWE.out.recOwn HXS.out.1
      · have HT := hid ht
        have hst : ¬ st = ⟨#[]⟩ := by rw [HST.out]; intro e; apply ht; have := congrArg (fun b : ByteArray => b.data.toList) e; simpa [bL] using this
        have HEM := hid (show ¬ st.toList = [] from by have h1 := bytes_ne hst; intro e; rw [e, show (⟨#[]⟩ : ByteArray).toList = [] from by unfold ByteArray.toList; unfold ByteArray.toList.loop; rfl] at h1; exact absurd h1 (by decide))
        clear ht hst
        go_upto_region 14 with fail
        refine wp_region_valsg (RL14 (v14c X Y st rf ia oa ic oc 0)) (W14 X Y R st true rf (.slice ia rf.tx.ins.length ic) (.slice oa rf.tx.outs.length oc) wc) (by kernel_rfl) (by kernel_rfl) (by kernel_rfl) HW.out.drew ?_ ?_
        · intro i o hi ho L xs wr hmd hw hni hpre
          obtain ⟨x0, x1, x2, x3, x4, x5, x6, x7, x8, x9, x10, x11, x12, x13, x14, x15, x16, x17, x18, rfl⟩ : ∃ x0 x1 x2 x3 x4 x5 x6 x7 x8 x9 x10 x11 x12 x13 x14 x15 x16 x17 x18, xs = [x0, x1, x2, x3, x4, x5, x6, x7, x8, x9, x10, x11, x12, x13, x14, x15, x16, x17, x18] := by match xs, hmd.len with | [x0, x1, x2, x3, x4, x5, x6, x7, x8, x9, x10, x11, x12, x13, x14, x15, x16, x17, x18], _ => exact ⟨_, _, _, _, _, _, _, _, _, _, _, _, _, _, _, _, _, _, _, rfl⟩
          match i, ho with
          | 0, ho =>
            obtain rfl := Option.some.inj ho
            refine Or.inl ⟨by kernel_rfl, ?_⟩
            have hrow := hw.rcd
            have kk := fun lx ox ax => vstep_lrow (P := Tryz.prog) (l := lx) (xs := [x0, x1, x2, x3, x4, x5, x6, x7, x8, x9, x10, x11, x12, x13, x14, x15, x16, x17, x18]) (R := (RL14 (v14c X Y st rf ia oa ic oc 0))) (W := (W14 X Y R st true rf (.slice ia rf.tx.ins.length ic) (.slice oa rf.tx.outs.length oc) wc)) (L := L) (o := ox) (a := ax) (w := wr) (i := 0) 35 (.tmp 5) R 35 #[.int .i64 rf.kind, .int .i64 rf.num, .int .u32 rf.tx.ver, .slice ia rf.tx.ins.length ic, .slice oa rf.tx.outs.length oc, .int .u32 rf.tx.lock, .int .i64 rf.index, .string rf.id, .int .u32 rf.idx, .int .i64 rf.val, .int .i64 rf.br, .int .u16 rf.tag, .int .u16 rf.delay, .int .u32 rf.height, .int .i64 rf.dead, .int .i64 rf.budget, .int .i64 rf.start, .int .i64 rf.fee] (0, 0) _ Tryz.underlying35 rfl
            refine kk _ _ _ ?_ ?_ ?_ ?_ ?_ ?_
            · exact rfl
            · kernel_rfl
            · exact hrow
            · kernel_rfl
            · exact rfl
            · exact hw.add 0 (by decide)
          | 1, ho =>
            obtain rfl := Option.some.inj ho
            refine Or.inl ⟨by kernel_rfl, ?_⟩
            have kk := fun lx ox ax => vstep_run (P := Tryz.prog) (l := lx) (xs := [x0, x1, x2, x3, x4, x5, x6, x7, x8, x9, x10, x11, x12, x13, x14, x15, x16, x17, x18]) (R := (RL14 (v14c X Y st rf ia oa ic oc 0))) (W := (W14 X Y R st true rf (.slice ia rf.tx.ins.length ic) (.slice oa rf.tx.outs.length oc) wc)) (L := L) (o := ox) (a := ax) (w := wr) (i := 1) (w' := wr) (.pointer (some ⟨Y, 0, none⟩))
            refine kk _ _ _ ?_ ?_ ?_
            · kernel_rfl
            · exact rfl
            · exact hw.add 1 (by decide)
          | 2, ho =>
            obtain rfl := Option.some.inj ho
            have h_1 : x1 = .pointer (some ⟨Y, 0, none⟩) := hmd.rel 1 (hpre 1 (by kernel_rfl))
            subst h_1
            refine Or.inl ⟨by kernel_rfl, ?_⟩
            have kk := fun lx ox ax => vstep_run (P := Tryz.prog) (l := lx) (xs := [x0, (.pointer (some ⟨Y, 0, none⟩)), x2, x3, x4, x5, x6, x7, x8, x9, x10, x11, x12, x13, x14, x15, x16, x17, x18]) (R := (RL14 (v14c X Y st rf ia oa ic oc 0))) (W := (W14 X Y R st true rf (.slice ia rf.tx.ins.length ic) (.slice oa rf.tx.outs.length oc) wc)) (L := L) (o := ox) (a := ax) (w := wr) (i := 2) (w' := wr) (.pointer (some ⟨Y, 0, none⟩))
            refine kk _ _ _ ?_ ?_ ?_
            · kernel_rfl
            · exact rfl
            · exact hw.add 2 (by decide)
          | 3, ho =>
            obtain rfl := Option.some.inj ho
            have h_2 : x2 = .pointer (some ⟨Y, 0, none⟩) := hmd.rel 2 (hpre 2 (by kernel_rfl))
            subst h_2
            refine Or.inl ⟨by kernel_rfl, ?_⟩
            have kk := fun lx ox ax => vstep_run (P := Tryz.prog) (l := lx) (xs := [x0, x1, (.pointer (some ⟨Y, 0, none⟩)), x3, x4, x5, x6, x7, x8, x9, x10, x11, x12, x13, x14, x15, x16, x17, x18]) (R := (RL14 (v14c X Y st rf ia oa ic oc 0))) (W := (W14 X Y R st true rf (.slice ia rf.tx.ins.length ic) (.slice oa rf.tx.outs.length oc) wc)) (L := L) (o := ox) (a := ax) (w := wr) (i := 3) (w' := wr) (.pointer (some ⟨Y, 1, none⟩))
            refine kk _ _ _ ?_ ?_ ?_
            · kernel_rfl
            · exact rfl
            · exact hw.add 3 (by decide)
          | 4, ho =>
            obtain rfl := Option.some.inj ho
            have h_3 : x3 = .pointer (some ⟨Y, 1, none⟩) := hmd.rel 3 (hpre 3 (by kernel_rfl))
            subst h_3
            refine Or.inl ⟨by kernel_rfl, ?_⟩
            have kk := fun lx ox ax => vstep_run (P := Tryz.prog) (l := lx) (xs := [x0, x1, x2, (.pointer (some ⟨Y, 1, none⟩)), x4, x5, x6, x7, x8, x9, x10, x11, x12, x13, x14, x15, x16, x17, x18]) (R := (RL14 (v14c X Y st rf ia oa ic oc 0))) (W := (W14 X Y R st true rf (.slice ia rf.tx.ins.length ic) (.slice oa rf.tx.outs.length oc) wc)) (L := L) (o := ox) (a := ax) (w := wr) (i := 4) (w' := wr) (.bool true)
            refine kk _ _ _ ?_ ?_ ?_
            · (have y1 : wr.cell? ⟨Y, 1, none⟩ = some (.bool true) := cell_at hw.rd; simp [putAll, execOp, go_sem, y1])
            · exact rfl
            · exact hw.add 4 (by decide)
          | 5, ho =>
            obtain rfl := Option.some.inj ho
            have h_4 : x4 = .bool true := hmd.rel 4 (hpre 4 (by kernel_rfl))
            subst h_4
            refine Or.inl ⟨by kernel_rfl, ?_⟩
            have kk := fun lx ox ax => vstep_run (P := Tryz.prog) (l := lx) (xs := [x0, x1, x2, x3, (.bool true), x5, x6, x7, x8, x9, x10, x11, x12, x13, x14, x15, x16, x17, x18]) (R := (RL14 (v14c X Y st rf ia oa ic oc 0))) (W := (W14 X Y R st true rf (.slice ia rf.tx.ins.length ic) (.slice oa rf.tx.outs.length oc) wc)) (L := L) (o := ox) (a := ax) (w := wr) (i := 5) (w' := wr) (.bool true)
            refine kk _ _ _ ?_ ?_ ?_
            · kernel_rfl
            · exact rfl
            · exact hw.add 5 (by decide)
          | 6, ho =>
            obtain rfl := Option.some.inj ho
            have h_5 : x5 = .bool true := hmd.rel 5 (hpre 5 (by kernel_rfl))
            subst h_5
            refine Or.inl ⟨by kernel_rfl, ?_⟩
            have kk := fun lx ox ax => vstep_run (P := Tryz.prog) (l := lx) (xs := [x0, x1, x2, x3, x4, (.bool true), x6, x7, x8, x9, x10, x11, x12, x13, x14, x15, x16, x17, x18]) (R := (RL14 (v14c X Y st rf ia oa ic oc 0))) (W := (W14 X Y R st true rf (.slice ia rf.tx.ins.length ic) (.slice oa rf.tx.outs.length oc) wc)) (L := L) (o := ox) (a := ax) (w := wr) (i := 6) (w' := wr) (.pointer (some ⟨Y, 0, none⟩))
            refine kk _ _ _ ?_ ?_ ?_
            · kernel_rfl
            · exact rfl
            · exact hw.add 6 (by decide)
          | 7, ho =>
            obtain rfl := Option.some.inj ho
            have h_5 : x5 = .bool true := hmd.rel 5 (hpre 5 (by kernel_rfl))
            subst h_5
            have h_6 : x6 = .pointer (some ⟨Y, 0, none⟩) := hmd.rel 6 (hpre 6 (by kernel_rfl))
            subst h_6
            refine Or.inl ⟨by kernel_rfl, ?_⟩
            have kk := fun lx ox ax => vstep_run (P := Tryz.prog) (l := lx) (xs := [x0, x1, x2, x3, x4, (.bool true), (.pointer (some ⟨Y, 0, none⟩)), x7, x8, x9, x10, x11, x12, x13, x14, x15, x16, x17, x18]) (R := (RL14 (v14c X Y st rf ia oa ic oc 0))) (W := (W14 X Y R st true rf (.slice ia rf.tx.ins.length ic) (.slice oa rf.tx.outs.length oc) wc)) (L := L) (o := ox) (a := ax) (w := wr) (i := 7) (w' := wr) (.pointer (some ⟨Y, 0, none⟩))
            refine kk _ _ _ ?_ ?_ ?_
            · kernel_rfl
            · exact rfl
            · exact hw.add 7 (by decide)
          | 8, ho =>
            obtain rfl := Option.some.inj ho
            have h_5 : x5 = .bool true := hmd.rel 5 (hpre 5 (by kernel_rfl))
            subst h_5
            have h_7 : x7 = .pointer (some ⟨Y, 0, none⟩) := hmd.rel 7 (hpre 7 (by kernel_rfl))
            subst h_7
            refine Or.inl ⟨by kernel_rfl, ?_⟩
            have kk := fun lx ox ax => vstep_run (P := Tryz.prog) (l := lx) (xs := [x0, x1, x2, x3, x4, (.bool true), x6, (.pointer (some ⟨Y, 0, none⟩)), x8, x9, x10, x11, x12, x13, x14, x15, x16, x17, x18]) (R := (RL14 (v14c X Y st rf ia oa ic oc 0))) (W := (W14 X Y R st true rf (.slice ia rf.tx.ins.length ic) (.slice oa rf.tx.outs.length oc) wc)) (L := L) (o := ox) (a := ax) (w := wr) (i := 8) (w' := wr) (.pointer (some ⟨Y, 0, none⟩))
            refine kk _ _ _ ?_ ?_ ?_
            · kernel_rfl
            · exact rfl
            · exact hw.add 8 (by decide)
          | 9, ho =>
            obtain rfl := Option.some.inj ho
            have h_5 : x5 = .bool true := hmd.rel 5 (hpre 5 (by kernel_rfl))
            subst h_5
            have h_8 : x8 = .pointer (some ⟨Y, 0, none⟩) := hmd.rel 8 (hpre 8 (by kernel_rfl))
            subst h_8
            refine Or.inl ⟨by kernel_rfl, ?_⟩
            have kk := fun lx ox ax => vstep_run (P := Tryz.prog) (l := lx) (xs := [x0, x1, x2, x3, x4, (.bool true), x6, x7, (.pointer (some ⟨Y, 0, none⟩)), x9, x10, x11, x12, x13, x14, x15, x16, x17, x18]) (R := (RL14 (v14c X Y st rf ia oa ic oc 0))) (W := (W14 X Y R st true rf (.slice ia rf.tx.ins.length ic) (.slice oa rf.tx.outs.length oc) wc)) (L := L) (o := ox) (a := ax) (w := wr) (i := 9) (w' := wr) (.string st)
            refine kk _ _ _ ?_ ?_ ?_
            · (have y0 : wr.cell? ⟨Y, 0, none⟩ = some (.string st) := cell_at hw.rd; simp [putAll, execOp, go_sem, y0])
            · exact rfl
            · exact hw.add 9 (by decide)
          | 10, ho =>
            obtain rfl := Option.some.inj ho
            have h_5 : x5 = .bool true := hmd.rel 5 (hpre 5 (by kernel_rfl))
            subst h_5
            have h_9 : x9 = .string st := hmd.rel 9 (hpre 9 (by kernel_rfl))
            subst h_9
            refine Or.inl ⟨by kernel_rfl, ?_⟩
            have kk := fun lx ox ax => vstep_run (P := Tryz.prog) (l := lx) (xs := [x0, x1, x2, x3, x4, (.bool true), x6, x7, x8, (.string st), x10, x11, x12, x13, x14, x15, x16, x17, x18]) (R := (RL14 (v14c X Y st rf ia oa ic oc 0))) (W := (W14 X Y R st true rf (.slice ia rf.tx.ins.length ic) (.slice oa rf.tx.outs.length oc) wc)) (L := L) (o := ox) (a := ax) (w := wr) (i := 10) (w' := wr) (.bool false)
            refine kk _ _ _ ?_ ?_ ?_
            · (have q := HEM.out; simp [putAll, execOp, go_sem, q])
            · exact rfl
            · exact hw.add 10 (by decide)
          | 11, ho =>
            obtain rfl := Option.some.inj ho
            have h_5 : x5 = .bool true := hmd.rel 5 (hpre 5 (by kernel_rfl))
            subst h_5
            have h_10 : x10 = .bool false := hmd.rel 10 (hpre 10 (by kernel_rfl))
            subst h_10
            refine Or.inl ⟨by kernel_rfl, ?_⟩
            have kk := fun lx ox ax => vstep_run (P := Tryz.prog) (l := lx) (xs := [x0, x1, x2, x3, x4, (.bool true), x6, x7, x8, x9, (.bool false), x11, x12, x13, x14, x15, x16, x17, x18]) (R := (RL14 (v14c X Y st rf ia oa ic oc 0))) (W := (W14 X Y R st true rf (.slice ia rf.tx.ins.length ic) (.slice oa rf.tx.outs.length oc) wc)) (L := L) (o := ox) (a := ax) (w := wr) (i := 11) (w' := wr) (.bool false)
            refine kk _ _ _ ?_ ?_ ?_
            · kernel_rfl
            · exact rfl
            · exact hw.add 11 (by decide)
          | 12, ho =>
            obtain rfl := Option.some.inj ho
            have h_11 : x11 = .bool false := hmd.rel 11 (hpre 11 (by kernel_rfl))
            subst h_11
            refine Or.inl ⟨by kernel_rfl, ?_⟩
            have kk := fun lx ox ax => vstep_run (P := Tryz.prog) (l := lx) (xs := [x0, x1, x2, x3, x4, x5, x6, x7, x8, x9, x10, (.bool false), x12, x13, x14, x15, x16, x17, x18]) (R := (RL14 (v14c X Y st rf ia oa ic oc 0))) (W := (W14 X Y R st true rf (.slice ia rf.tx.ins.length ic) (.slice oa rf.tx.outs.length oc) wc)) (L := L) (o := ox) (a := ax) (w := wr) (i := 12) (w' := wr) (.bool false)
            refine kk _ _ _ ?_ ?_ ?_
            · kernel_rfl
            · exact rfl
            · exact hw.add 12 (by decide)
          | 13, ho =>
            obtain rfl := Option.some.inj ho
            have h_12 : x12 = .bool false := hmd.rel 12 (hpre 12 (by kernel_rfl))
            subst h_12
            refine Or.inr ⟨?_, ?_, ?_⟩
            · kernel_rfl
            · exact rfl
            · exact hw.add 13 (by decide)
          | 14, ho =>
            obtain rfl := Option.some.inj ho
            have h_12 : x12 = .bool false := hmd.rel 12 (hpre 12 (by kernel_rfl))
            subst h_12
            refine Or.inr ⟨?_, ?_, ?_⟩
            · kernel_rfl
            · exact rfl
            · exact hw.add 14 (by decide)
          | 15, ho =>
            obtain rfl := Option.some.inj ho
            have h_12 : x12 = .bool false := hmd.rel 12 (hpre 12 (by kernel_rfl))
            subst h_12
            refine Or.inr ⟨?_, ?_, ?_⟩
            · kernel_rfl
            · exact rfl
            · exact hw.add 15 (by decide)
          | 16, ho =>
            obtain rfl := Option.some.inj ho
            have h_12 : x12 = .bool false := hmd.rel 12 (hpre 12 (by kernel_rfl))
            subst h_12
            have h_15 : x15 = undef := hmd.rel 15 (hpre 15 (by kernel_rfl))
            subst h_15
            refine Or.inl ⟨by kernel_rfl, ?_⟩
            have kk := fun lx ox ax => vstep_run (P := Tryz.prog) (l := lx) (xs := [x0, x1, x2, x3, x4, x5, x6, x7, x8, x9, x10, x11, (.bool false), x13, x14, (undef), x16, x17, x18]) (R := (RL14 (v14c X Y st rf ia oa ic oc 0))) (W := (W14 X Y R st true rf (.slice ia rf.tx.ins.length ic) (.slice oa rf.tx.outs.length oc) wc)) (L := L) (o := ox) (a := ax) (w := wr) (i := 16) (w' := wr) (.bool false)
            refine kk _ _ _ ?_ ?_ ?_
            · kernel_rfl
            · exact rfl
            · exact hw.add 16 (by decide)
          | 17, ho =>
            obtain rfl := Option.some.inj ho
            have h_0 : x0 = .agg #[.int .i64 rf.kind, .int .i64 rf.num, .int .u32 rf.tx.ver, .slice ia rf.tx.ins.length ic, .slice oa rf.tx.outs.length oc, .int .u32 rf.tx.lock, .int .i64 rf.index, .string rf.id, .int .u32 rf.idx, .int .i64 rf.val, .int .i64 rf.br, .int .u16 rf.tag, .int .u16 rf.delay, .int .u32 rf.height, .int .i64 rf.dead, .int .i64 rf.budget, .int .i64 rf.start, .int .i64 rf.fee] := hmd.rel 0 (hpre 0 (by kernel_rfl))
            subst h_0
            refine Or.inl ⟨by kernel_rfl, ?_⟩
            have hold := hw.old hni
            have kk := fun lx ox ax => vstep_srow (P := Tryz.prog) (l := lx) (xs := [(.agg #[.int .i64 rf.kind, .int .i64 rf.num, .int .u32 rf.tx.ver, .slice ia rf.tx.ins.length ic, .slice oa rf.tx.outs.length oc, .int .u32 rf.tx.lock, .int .i64 rf.index, .string rf.id, .int .u32 rf.idx, .int .i64 rf.val, .int .i64 rf.br, .int .u16 rf.tag, .int .u16 rf.delay, .int .u32 rf.height, .int .i64 rf.dead, .int .i64 rf.budget, .int .i64 rf.start, .int .i64 rf.fee]), x1, x2, x3, x4, x5, x6, x7, x8, x9, x10, x11, x12, x13, x14, x15, x16, x17, x18]) (R := (RL14 (v14c X Y st rf ia oa ic oc 0))) (W := (W14 X Y R st true rf (.slice ia rf.tx.ins.length ic) (.slice oa rf.tx.outs.length oc) wc)) (L := L) (o := ox) (a := ax) (w := wr) (i := 17) 35 (.tmp 2) (.tmp 56) X #[.int .i64 rf.kind, .int .i64 rf.num, .int .u32 rf.tx.ver, .slice ia rf.tx.ins.length ic, .slice oa rf.tx.outs.length oc, .int .u32 rf.tx.lock, .int .i64 rf.index, .string rf.id, .int .u32 rf.idx, .int .i64 rf.val, .int .i64 rf.br, .int .u16 rf.tag, .int .u16 rf.delay, .int .u32 rf.height, .int .i64 rf.dead, .int .i64 rf.budget, .int .i64 rf.start, .int .i64 rf.fee] 35 #[.int .i64 0, .int .i64 0, .int .u32 0, .slice none 0 0, .slice none 0 0, .int .u32 0, .int .i64 0, .string ⟨#[]⟩, .int .u32 0, .int .i64 0, .int .i64 0, .int .u16 0, .int .u16 0, .int .u32 0, .int .i64 0, .int .i64 0, .int .i64 0, .int .i64 0]
            refine kk _ _ _ ?_ ?_ ?_ ?_ ?_ ?_ ?_ ?_ ?_
            · exact rfl
            · kernel_rfl
            · kernel_rfl
            · exact hold
            · kernel_rfl
            · exact rfl
            · kernel_rfl
            · exact rfl
            · exact hw.store hni
          | 18, ho =>
            obtain rfl := Option.some.inj ho
            have h_16 : x16 = .bool false := hmd.rel 16 (hpre 16 (by kernel_rfl))
            subst h_16
            refine Or.inl ⟨by kernel_rfl, ?_⟩
            have kk := fun lx ox ax => vstep_run (P := Tryz.prog) (l := lx) (xs := [x0, x1, x2, x3, x4, x5, x6, x7, x8, x9, x10, x11, x12, x13, x14, x15, (.bool false), x17, x18]) (R := (RL14 (v14c X Y st rf ia oa ic oc 0))) (W := (W14 X Y R st true rf (.slice ia rf.tx.ins.length ic) (.slice oa rf.tx.outs.length oc) wc)) (L := L) (o := ox) (a := ax) (w := wr) (i := 18) (w' := wr) (.bool false)
            refine kk _ _ _ ?_ ?_ ?_
            · kernel_rfl
            · exact rfl
            · exact hw.add 18 (by decide)
          | q + 19, ho => exact absurd (List.getElem?_eq_some_iff.1 ho).1 (by simp)
        · intro xs wr hmd hw
          obtain ⟨x0, x1, x2, x3, x4, x5, x6, x7, x8, x9, x10, x11, x12, x13, x14, x15, x16, x17, x18, rfl⟩ : ∃ x0 x1 x2 x3 x4 x5 x6 x7 x8 x9 x10 x11 x12 x13 x14 x15 x16 x17 x18, xs = [x0, x1, x2, x3, x4, x5, x6, x7, x8, x9, x10, x11, x12, x13, x14, x15, x16, x17, x18] := by match xs, hmd.len with | [x0, x1, x2, x3, x4, x5, x6, x7, x8, x9, x10, x11, x12, x13, x14, x15, x16, x17, x18], _ => exact ⟨_, _, _, _, _, _, _, _, _, _, _, _, _, _, _, _, _, _, _, rfl⟩
          obtain rfl : x0 = .agg #[.int .i64 rf.kind, .int .i64 rf.num, .int .u32 rf.tx.ver, .slice ia rf.tx.ins.length ic, .slice oa rf.tx.outs.length oc, .int .u32 rf.tx.lock, .int .i64 rf.index, .string rf.id, .int .u32 rf.idx, .int .i64 rf.val, .int .i64 rf.br, .int .u16 rf.tag, .int .u16 rf.delay, .int .u32 rf.height, .int .i64 rf.dead, .int .i64 rf.budget, .int .i64 rf.start, .int .i64 rf.fee] := hmd.rel 0 (by decide)
          obtain rfl : x1 = .pointer (some ⟨Y, 0, none⟩) := hmd.rel 1 (by decide)
          obtain rfl : x2 = .pointer (some ⟨Y, 0, none⟩) := hmd.rel 2 (by decide)
          obtain rfl : x3 = .pointer (some ⟨Y, 1, none⟩) := hmd.rel 3 (by decide)
          obtain rfl : x4 = .bool true := hmd.rel 4 (by decide)
          obtain rfl : x5 = .bool true := hmd.rel 5 (by decide)
          obtain rfl : x6 = .pointer (some ⟨Y, 0, none⟩) := hmd.rel 6 (by decide)
          obtain rfl : x7 = .pointer (some ⟨Y, 0, none⟩) := hmd.rel 7 (by decide)
          obtain rfl : x8 = .pointer (some ⟨Y, 0, none⟩) := hmd.rel 8 (by decide)
          obtain rfl : x9 = .string st := hmd.rel 9 (by decide)
          obtain rfl : x10 = .bool false := hmd.rel 10 (by decide)
          obtain rfl : x11 = .bool false := hmd.rel 11 (by decide)
          obtain rfl : x12 = .bool false := hmd.rel 12 (by decide)
          obtain rfl : x13 = undef := hmd.rel 13 (by decide)
          obtain rfl : x14 = undef := hmd.rel 14 (by decide)
          obtain rfl : x15 = undef := hmd.rel 15 (by decide)
          obtain rfl : x16 = .bool false := hmd.rel 16 (by decide)
          obtain rfl : x17 = undef := hmd.rel 17 (by decide)
          obtain rfl : x18 = .bool false := hmd.rel 18 (by decide)
          generalize hF : putAll _ _ _ = F
          have h2 : F.tmps.getD 2 undef = .pointer (some ⟨X, 0, none⟩) := by rw [← hF]; kernel_rfl
          have h3 : F.tmps.getD 3 undef = .bool false := by rw [← hF]; kernel_rfl
          have h4 : F.defers = [] := by rw [← hF]; kernel_rfl
          clear hF hmd
          have HWE := hid hw
          have H2 := hid h2
          have H3 := hid h3
          have H4 := hid h4
          clear hw h2 h3 h4
          go_wp2_with fail
          refine bodyPost_ret (v := .tuple #[.agg #[.int .i64 rf.kind, .int .i64 rf.num, .int .u32 rf.tx.ver, .slice ia rf.tx.ins.length ic, .slice oa rf.tx.outs.length oc, .int .u32 rf.tx.lock, .int .i64 rf.index, .string rf.id, .int .u32 rf.idx, .int .i64 rf.val, .int .i64 rf.br, .int .u16 rf.tag, .int .u16 rf.delay, .int .u32 rf.height, .int .i64 rf.dead, .int .i64 rf.budget, .int .i64 rf.start, .int .i64 rf.fee], .bool false]) (results_cell_tmp (P := Tryz.prog) (p := 2) (q := 3) (ty := 35) Tryz.results85 _ _ X 35 #[.int .i64 rf.kind, .int .i64 rf.num, .int .u32 rf.tx.ver, .slice ia rf.tx.ins.length ic, .slice oa rf.tx.outs.length oc, .int .u32 rf.tx.lock, .int .i64 rf.index, .string rf.id, .int .u32 rf.idx, .int .i64 rf.val, .int .i64 rf.br, .int .u16 rf.tag, .int .u16 rf.delay, .int .u32 rf.height, .int .i64 rf.dead, .int .i64 rf.budget, .int .i64 rf.start, .int .i64 rf.fee] (0, 0) _ _ H2.out H3.out HWE.out.new Tryz.underlying35 rfl (by kernel_rfl)) H4.out ?_
          refine ⟨_, by rw [show goodP l = false from by unfold goodP; rw [HPAR.out]; dsimp only; rw [decide_eq_false HT.out]; simp], ?_, HBC.out.trans (HWE.out.bel HBC.out.size HXS.out.1)⟩
          rw [HPAR.out]
          exact HWE.out.recOwn HXS.out.1
end Go.Proofs.YtaooibocknemkaaGreat
