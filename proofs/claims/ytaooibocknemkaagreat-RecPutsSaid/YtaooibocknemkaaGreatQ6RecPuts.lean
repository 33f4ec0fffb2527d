/-
  RecPuts, part 6: the texts Ec, TxD, Inv, Reg, TxF, New, Ef, one after another. Conditions: none beyond those named at each.
-/
import Derived.Test.YtaooibocknemkaaGreatQ4RecPuts
import Derived.Test.YtaooibocknemkaaGreatQ5RecPuts
import Derived.Test.YtaooibocknemkaaGreatTxQ
import Derived.Test.YtaooibocknemkaaGreatQ1RecPuts
section
namespace Go.Proofs.YtaooibocknemkaaGreat
open Go.RowKit
set_option linter.unusedVariables false
set_option linter.unusedSimpArgs false

structure PRec where
  kind : Int
  num : Int
  tx : PTx
  index : Int
  id : ByteArray
  idx : Nat
  val : Int
  br : Int
  tag : Nat
  delay : Nat
  height : Nat
  dead : Int
  budget : Int
  start : Int
  fee : Int
def i64R (n : Int) : Prop := -9223372036854775808 ≤ n ∧ n ≤ 9223372036854775807
structure PRec.Ok (r : PRec) : Prop where
  kind : i64R r.kind
  num : i64R r.num
  ver : r.tx.ver < 4294967296
  lock : r.tx.lock < 4294967296
  index : i64R r.index
  id : r.id.size ≤ 9223372036854775807
  idx : r.idx < 4294967296
  val : i64R r.val
  br : i64R r.br
  tag : r.tag < 65536
  delay : r.delay < 65536
  height : r.height < 4294967296
  dead : i64R r.dead
  budget : i64R r.budget
  start : i64R r.start
  fee : i64R r.fee
def noRec : PRec := ⟨0, 0, noTx, 0, ByteArray.empty, 0, 0, 0, 0, 0, 0, 0, 0, 0, 0⟩
/-- What its kind has of a record. -/
def ownR (r : PRec) : PRec :=
  if r.kind = 1 then { noRec with kind := r.kind, num := r.num, tx := r.tx, index := r.index, br := r.br, tag := r.tag, delay := r.delay, height := r.height, dead := r.dead, budget := r.budget, start := r.start }
  else if r.kind = 2 then { noRec with kind := r.kind, num := r.num, id := r.id, idx := r.idx, val := r.val, br := r.br, tag := r.tag, delay := r.delay, height := r.height, dead := r.dead, budget := r.budget, start := r.start }
  else if r.kind = 3 then { noRec with kind := r.kind, num := r.num, id := r.id, idx := r.idx }
  else if r.kind = 4 then { noRec with kind := r.kind, num := r.num, id := r.id, idx := r.idx, index := r.index, fee := r.fee }
  else { noRec with kind := r.kind, num := r.num }
noncomputable def sameR (a b : PRec) : Bool := @decide (a = b) (Classical.propDecidable _)
theorem sameR_yes {a b : PRec} (h : a = b) : sameR a b = true := @decide_eq_true _ (Classical.propDecidable _) h
theorem sameR_no {a b : PRec} (h : a ≠ b) : sameR a b = false := @decide_eq_false _ (Classical.propDecidable _) h
theorem sameR_iff {a b : PRec} : sameR a b = true ↔ a = b := by
  by_cases h : a = b
  · exact ⟨fun _ => h, fun _ => sameR_yes h⟩
  · rw [sameR_no h]; exact ⟨fun e => absurd e (by decide), fun e => absurd e h⟩
def money (n : Int) : Prop := 0 ≤ n ∧ n ≤ 2100000000000000
structure Ranged (r : PRec) : Prop where
  num : 0 ≤ r.num ∧ r.num ≤ 2147483647
  br : 0 ≤ r.br ∧ r.br ≤ 2
  height : r.height ≤ 1000000
  dead : 0 ≤ r.dead ∧ r.dead ≤ 1000000
  start : 0 ≤ r.start ∧ r.start ≤ 1000000
  budget : money r.budget
  val : money r.val
  fee : money r.fee
  id : 1 < r.kind → r.kind < 5 → r.id.size = 32
  bid : r.kind = 4 → 0 ≤ r.index ∧ r.index ≤ 32
  com : r.kind = 1 → checkOf r.tx = 0 ∧ 0 ≤ r.index ∧ r.index < r.tx.outs.length
def kinded (r : PRec) : Prop := 1 ≤ r.kind ∧ r.kind ≤ 5
open Classical in
noncomputable def checkR (r : PRec) : Int := if ¬ kinded r then 2 else if ¬ ownR r = r then 4 else if ¬ Ranged r then 3 else 0
theorem checkR_bad {r : PRec} (h : ¬ kinded r) : checkR r = 2 := by unfold checkR; rw [if_pos h]
theorem checkR_form {r : PRec} (h : kinded r) (h2 : ¬ ownR r = r) : checkR r = 4 := by unfold checkR; rw [if_neg (fun e => e h), if_pos h2]
theorem checkR_range {r : PRec} (h : kinded r) (h2 : ownR r = r) (h3 : ¬ Ranged r) : checkR r = 3 := by unfold checkR; rw [if_neg (fun e => e h), if_neg (fun e => e h2), if_pos h3]
theorem checkR_ok {r : PRec} (h : kinded r) (h2 : ownR r = r) (h3 : Ranged r) : checkR r = 0 := by unfold checkR; rw [if_neg (fun e => e h), if_neg (fun e => e h2), if_neg (fun e => e h3)]
theorem checkR_zero {r : PRec} (h : checkR r = 0) : kinded r ∧ ownR r = r ∧ Ranged r := by
  by_cases h1 : kinded r
  · by_cases h2 : ownR r = r
    · by_cases h3 : Ranged r
      · exact ⟨h1, h2, h3⟩
      · rw [checkR_range h1 h2 h3] at h; exact absurd h (by decide)
    · rw [checkR_form h1 h2] at h; exact absurd h (by decide)
  · rw [checkR_bad h1] at h; exact absurd h (by decide)

/-! ### a record's bytes -/
def wishL (r : PRec) : List UInt8 := leB r.br.toNat 1 ++ (leB r.tag 2 ++ (leB r.delay 2 ++ (leB r.height 4 ++ (leB r.dead.toNat 4 ++ (leB r.budget.toNat 8 ++ (leB r.start.toNat 4 ++ []))))))
def pointL (r : PRec) (m : List UInt8) : List UInt8 := r.id.data.toList ++ (leB r.idx 4 ++ m)
def txL (t : PTx) : List UInt8 := encL t (witOf t)
def bodyL (r : PRec) : List UInt8 :=
  if r.kind = 1 then vintL (txL r.tx).length ++ (txL r.tx ++ (leB r.index.toNat 2 ++ wishL r))
  else if r.kind = 2 then pointL r (leB r.val.toNat 8 ++ wishL r)
  else if r.kind = 3 then pointL r []
  else if r.kind = 4 then pointL r (leB r.index.toNat 2 ++ (leB r.fee.toNat 8 ++ []))
  else []
def payL (r : PRec) : List UInt8 := leB r.kind.toNat 1 ++ (leB r.num.toNat 4 ++ bodyL r)
def putL (r : PRec) : List UInt8 := leB (payL r).length 4 ++ (leB (crcL (payL r)).toNat 4 ++ payL r)

/-! ### how they are read -/
structure RdS where
  t : List UInt8
  ok : Bool
def takeR (n : Nat) (x : RdS) : RdS × List UInt8 := if x.ok = false ∨ x.t.length < n then (⟨x.t, false⟩, []) else (⟨x.t.drop n, true⟩, x.t.take n)
def numR (k : Nat) (x : RdS) : RdS × Nat := ((takeR k x).1, leN (takeR k x).2)
def numI (k : Nat) (x : RdS) : RdS × Int := ((numR k x).1, IntKind.i64.wrap ((numR k x).2 : Int))
noncomputable def txR (x : RdS) : RdS × PTx :=
  if (vgetL x.t 0).2.2 ≠ 0 ∨ x.t.length < (vgetL x.t 0).1 then (⟨x.t, false⟩, noTx)
  else (⟨(takeR (vgetL x.t 0).1 (takeR (vgetL x.t 0).2.1 x).1).1.t, (takeR (vgetL x.t 0).1 (takeR (vgetL x.t 0).2.1 x).1).1.ok && decide ((decZ (takeR (vgetL x.t 0).1 (takeR (vgetL x.t 0).2.1 x).1).2).2.2 = 0)⟩,
    (decZ (takeR (vgetL x.t 0).1 (takeR (vgetL x.t 0).2.1 x).1).2).1)
theorem takeR_back {a r : List UInt8} {n : Nat} (h : a.length = n) : takeR n ⟨a ++ r, true⟩ = (⟨r, true⟩, a) := by
  unfold takeR
  rw [if_neg (by rintro (e | e); cases e; rw [List.length_append] at e; omega)]
  subst h
  simp
theorem takeR_again {n : Nat} {x : RdS} (h : (takeR n x).1.ok = true) : x.ok = true ∧ x.t = (takeR n x).2 ++ (takeR n x).1.t ∧ (takeR n x).2.length = n := by
  unfold takeR at h ⊢
  split at h
  · cases h
  · rename_i hn
    rw [if_neg hn]
    have h1 : x.ok = true := by cases hx : x.ok with | true => rfl | false => exact absurd (.inl hx) hn
    have h2 : ¬ x.t.length < n := fun e => hn (.inr e)
    refine ⟨h1, (List.take_append_drop n x.t).symm, ?_⟩
    rw [List.length_take]; omega
theorem takeR_fail {n : Nat} {x : RdS} (h : (takeR n x).1.ok = false) : (takeR n x).2 = [] := by
  unfold takeR at h ⊢
  split
  · rfl
  · rename_i hn; rw [if_neg hn] at h; cases h
theorem numR_back {n k : Nat} {r : List UInt8} (h : n < 256 ^ k) : numR k ⟨leB n k ++ r, true⟩ = (⟨r, true⟩, n) := by
  unfold numR
  rw [takeR_back (leB_length n k)]
  dsimp only
  rw [leN_leB' h]
theorem numR_again {k : Nat} {x : RdS} (h : (numR k x).1.ok = true) : x.ok = true ∧ x.t = leB (numR k x).2 k ++ (numR k x).1.t ∧ (numR k x).2 < 256 ^ k := by
  obtain ⟨h1, h2, h3⟩ := takeR_again h
  refine ⟨h1, ?_, ?_⟩
  · show x.t = leB (leN (takeR k x).2) k ++ (takeR k x).1.t
    conv => rhs; rw [show leB (leN (takeR k x).2) k = leB (leN (takeR k x).2) (takeR k x).2.length by rw [h3]]
    rw [leB_leN]
    exact h2
  · have := leN_lt (takeR k x).2
    rw [h3] at this
    exact this
theorem numR_lt (k : Nat) (x : RdS) : (numR k x).2 < 256 ^ k := by
  cases h : (numR k x).1.ok with
  | true => exact (numR_again h).2.2
  | false =>
    show leN (takeR k x).2 < _
    rw [takeR_fail h]
    exact Nat.pow_pos (by decide)
theorem numI_back {n : Int} {k : Nat} {r : List UInt8} (h0 : 0 ≤ n) (h : n.toNat < 256 ^ k) (h2 : n ≤ 9223372036854775807) : numI k ⟨leB n.toNat k ++ r, true⟩ = (⟨r, true⟩, n) := by
  unfold numI
  rw [numR_back h]
  dsimp only
  rw [show ((n.toNat : Nat) : Int) = n by omega, IntKind.wrap_i64]
  congr 1
  omega
theorem vget_back {n : Nat} {r : List UInt8} (h : n < 18446744073709551616) : vgetL (vintL n ++ r) 0 = (n, (vintL n).length, 0) := by
  obtain ⟨b, p, h1, h2, h3, -⟩ := vintL_first n
  have h3 := h3 h
  obtain ⟨l, hl⟩ : ∃ l, l = b :: p ++ r := ⟨_, rfl⟩
  have hd : l.drop 0 = b :: (p ++ r) := by rw [hl]; rfl
  have hb : byteAt l 0 = b.toNat := byteAt_drop hd
  have hp : pt l (0 + 1) (kOf b.toNat) = p := pt_drop (a := p) (r := r) (by rw [hl]; rfl) h2
  have hv : vnum l 0 = n := by unfold vnum; rw [hb, hp]; exact h3
  have hll : l.length = p.length + 1 + r.length := by rw [hl]; simp; omega
  rw [h1, ← hl]
  unfold vgetL
  rw [if_neg (by omega), hb, if_neg (by omega), hv, if_pos (by rw [h1, List.length_cons]; omega), ← h2, List.length_cons]
  congr 2
  omega
theorem txR_back {t : PTx} {r : List UInt8} (h : OkP t) (hc : checkOf t = 0) (hl : (txL t).length < 18446744073709551616) : txR ⟨vintL (txL t).length ++ (txL t ++ r), true⟩ = (⟨r, true⟩, t) := by
  unfold txR
  dsimp only
  rw [vget_back hl]
  dsimp only
  rw [if_neg (by
    rintro (e | e)
    · exact e rfl
    · rw [List.length_append, List.length_append] at e; omega), takeR_back rfl]
  dsimp only
  rw [takeR_back rfl]
  dsimp only
  unfold txL
  rw [dec_back h hc]
  rfl
end Go.Proofs.YtaooibocknemkaaGreat
end

section
namespace Go.Proofs.YtaooibocknemkaaGreat
open Go.RowKit Go.BigFrame
set_option linter.unusedVariables false
set_option linter.unusedSimpArgs false

/-- The cells of a slice's elements, wherever they stand. -/
def RowAt (w : World) (v : Value) (n size : Nat) (cells : List Value) : Prop := ∃ a c, v = .slice a n c ∧ n ≤ c ∧ c ≤ maxLen ∧ cells.length = n * size ∧ (a = none → n = 0) ∧ ∀ ad, a = some ad → ∀ j u, cells[j]? = some u → w.cell? (ad.add j) = some u
theorem RowAt.mono {w w' : World} {v : Value} {n size : Nat} {cells : List Value} (h : RowAt w v n size cells) (hw : ∀ p v, w.cell? p = some v → w'.cell? p = some v) : RowAt w' v n size cells := by
  obtain ⟨a, c, h1, h2, h3, h4, h5, h6⟩ := h
  exact ⟨a, c, h1, h2, h3, h4, h5, fun ad e j u hj => hw _ _ (h6 ad e j u hj)⟩
theorem RowAt.below {w w' : World} {v : Value} {n size : Nat} {cells : List Value} (h : RowAt w v n size cells) (hb : Below w.heap.size w w') : RowAt w' v n size cells := h.mono (below_cells hb)
theorem row_of_strs {w : World} {v : Value} {l : List ByteArray} (h : SlAt rpStr w v l) : RowAt w v l.length 1 (strCells l) ∧ okStrs l := by
  obtain ⟨a, c, rfl, h1, h2⟩ := h.shape
  have hat : ∀ j, j < l.length → ∃ (b o : Nat) (x : ByteArray), a = some ⟨b, o, none⟩ ∧ l[j]? = some x ∧ x.size ≤ maxLen ∧ w.cell? ⟨b, o + j, none⟩ = some (.string x) := by
    intro j hj
    obtain ⟨b, o, x, e1, e2, e3, e4⟩ := h.str hj
    exact ⟨b, o, x, e1, e2, e3, e4⟩
  refine ⟨⟨a, c, rfl, h1, h2, by rw [strCells_len, Nat.mul_one], fun e => ?_, fun ad e j u hj => ?_⟩, fun s hs => ?_⟩
  · rcases Nat.eq_zero_or_pos l.length with h0 | h0
    · exact h0
    · obtain ⟨b, o, x, e1, -⟩ := hat 0 h0
      rw [e] at e1
      cases e1
  · have hjl : j < l.length := by have := (List.getElem?_eq_some_iff.1 hj).1; rw [strCells_len] at this; exact this
    obtain ⟨b, o, x, e1, e2, e3, e4⟩ := hat j hjl
    rw [e] at e1
    obtain rfl := Option.some.inj e1
    rw [Addr.add_lit, e4]
    simpa [strCells, e2] using hj
  · obtain ⟨i, hi⟩ := List.mem_iff_getElem?.1 hs
    obtain ⟨b, o, x, e1, e2, e3, e4⟩ := hat i (List.getElem?_eq_some_iff.1 hi).1
    rw [hi] at e2
    obtain rfl := Option.some.inj e2
    exact e3
/-- Ins with the values of their witnesses, which lie anywhere. -/
structure InsSrc (w : World) (v : Value) (ins : List PIn) (ps : List (PIn × Value)) : Prop where
  is : ps.map (·.1) = ins
  row : RowAt w v ps.length 4 (insCells ps)
  wit : ∀ (i : Nat) (p : PIn × Value), ps[i]? = some p → SlAt rpStr w p.2 p.1.wit
  ok : ∀ (i : Nat) (p : PIn × Value), ps[i]? = some p → OkIn p.1
theorem InsSrc.below {w w' : World} {v : Value} {ins : List PIn} {ps : List (PIn × Value)} (h : InsSrc w v ins ps) (hb : Below w.heap.size w w') : InsSrc w' v ins ps :=
  ⟨h.is, h.row.below hb, fun i p hp => (h.wit i p hp).below hb, h.ok⟩
theorem InsSrc.len {w : World} {v : Value} {ins : List PIn} {ps : List (PIn × Value)} (h : InsSrc w v ins ps) : ps.length = ins.length := by rw [← h.is, List.length_map]
theorem InsSrc.one {w : World} {v : Value} {ins : List PIn} {ps : List (PIn × Value)} (h : InsSrc w v ins ps) : ∀ u ∈ insCells ps, u.oneCell' = true := by
  intro u hu
  unfold insCells at hu
  rw [List.mem_flatMap] at hu
  obtain ⟨p, hp, hx⟩ := hu
  obtain ⟨i, hi⟩ := List.mem_iff_getElem?.1 hp
  obtain ⟨a, c, e, -, -⟩ := (h.wit i p hi).shape
  simp only [inRow, List.mem_cons, List.not_mem_nil, or_false] at hx
  rcases hx with rfl | rfl | rfl | rfl
  · rfl
  · rfl
  · rfl
  · rw [e]; rfl
theorem two_boxes (w : World) (A B : Array Value) (t : TypeId) : Below w.heap.size w ((w.alloc (.cells A t)).alloc (.cells B t)) ∧ ((w.alloc (.cells A t)).alloc (.cells B t)).heap[w.heap.size]? = some (.cells A t (0, 0)) ∧
    ((w.alloc (.cells A t)).alloc (.cells B t)).heap[w.heap.size + 1]? = some (.cells B t (0, 0)) := by
  have s1 : (w.alloc (.cells A t)).heap.size = w.heap.size + 1 := by simp
  refine ⟨((Below.refl _ _).alloc (Nat.le_refl _) _).alloc (by rw [s1]; omega) _, ?_, ?_⟩
  · rw [Below.heap_alloc _ _ _ (by rw [s1]; omega)]
    exact heap_alloc_new w _
  · rw [← s1]
    exact heap_alloc_new _ _
theorem below_drewN (w : World) : ∀ n, Below w.heap.size w (w.drewN n) := fun n => by
  induction n with
  | zero => exact Below.refl _ _
  | succ n ih => exact ih.drew
end Go.Proofs.YtaooibocknemkaaGreat
end

section
namespace Go.Proofs.YtaooibocknemkaaGreat
open Go.RowKit Go.BigFrame
set_option linter.unusedVariables false

section
variable {P : Program}
theorem getD_set_iff {l : Array Bool} {i j : Nat} (hi : i < l.size) : (l.setIfInBounds i true).getD j false = true ↔ (j = i ∨ l.getD j false = true) := by
  by_cases h : j = i
  · subst h
    simp [hi]
  · rw [Array.getD_eq_getD_getElem?, Array.getElem?_setIfInBounds_ne (Ne.symm h), ← Array.getD_eq_getD_getElem?]
    simp [h]
theorem getD_flip {l : Array Bool} {i : Nat} (hi : i < l.size) (b c : Bool) : l.getD i b = l.getD i c := by simp [Array.getD, hi]
theorem count_set_true {l : Array Bool} {i : Nat} (hi : i < l.size) (h : l.getD i true = false) : (l.setIfInBounds i true).toList.count false + 1 = l.toList.count false := by
  have hl : l.toList[i]'(by simpa using hi) = false := by
    have := h
    simpa [Array.getD, hi] using this
  have hpos : 0 < l.toList.count false := List.count_pos_iff.2 (by rw [← hl]; exact List.getElem_mem _)
  rw [Array.toList_setIfInBounds, List.count_set (by simpa using hi), hl]
  have e1 : (false == false) = true := rfl
  rw [if_pos e1, if_neg (by simp)]
  omega

end
end Go.Proofs.YtaooibocknemkaaGreat
end

section
namespace Go.Proofs.YtaooibocknemkaaGreat
open Go.RowKit Go.BigFrame
set_option linter.unusedVariables false

theorem opv_run {P : Program} {o : Oper} {a : Act} {w w' : World} {v : Value} {K : Act → World → Prop} {Q : Exit → Act → World → Prop} (hrun : (execOp a.eval o).run P w = .ok (.value v) w') (hK : K (a.put o.dst v) w') : o.wp P a w K Q := by
  unfold Oper.wp
  rw [hrun]
  exact hK
theorem op_skip {P : Program} {o : Oper} {a : Act} {w w' : World} {K : Act → World → Prop} {Q : Exit → Act → World → Prop} (hrun : (execOp a.eval o).run P w = .ok .skip w') (hK : K (a.put o.dst undef) w') : o.wp P a w K Q := by
  unfold Oper.wp
  rw [hrun]
  exact hK
theorem op_call {P : Program} {o : Oper} {a : Act} {w : World} {f : FuncId} {args : Array Value} {R : Ending → World → Prop} {K : Act → World → Prop} {Q : Exit → Act → World → Prop} (hrun : (execOp a.eval o).run P w = .ok (.enter f args) w)
    (hc : Calls P f args w R) (hK : ∀ e w', R e w' → ∃ v, e = .returned v ∧ K (a.put o.dst v) w') : o.wp P a w K Q := by
  unfold Oper.wp
  rw [hrun]
  refine hc.mono fun e w' hR => ?_
  obtain ⟨v, rfl, hk⟩ := hK e w' hR
  exact hk

/-- The frame behind the operations' results. -/
def putAll (a : Act) : List Oper → List Value → Act
  | o :: l, x :: xs => putAll (a.put o.dst x) l xs
  | _, _ => a
def depsOf (o : Oper) : List Nat := (o.after.toList.filter (Region.binds .any)).map (·.on)
def deps (l : List Oper) (i : Nat) : List Nat := match l[i]? with | some o => depsOf o | none => []
def noneOf (d : Option Tmp) (l : List Oper) : Bool := match d with | none => true | some d => l.all fun o => match o.dst with | none => true | some e => !(d == e)
def dstB : List Oper → Bool
  | [] => true
  | o :: l => noneOf o.dst l && dstB l

theorem put_comm (a : Act) {d e : Option Tmp} (h : ∀ x y, d = some x → e = some y → x ≠ y) (u v : Value) : (a.put d u).put e v = (a.put e v).put d u := by
  cases d with
  | none => rfl
  | some d =>
    cases e with
    | none => rfl
    | some e =>
      have hne := h d e rfl rfl
      simp only [Act.put]
      congr 1
      exact Array.setIfInBounds_comm _ _ hne
theorem put_own (a : Act) (d : Option Tmp) : a.put d (match d with | some d => a.tmps.getD d undef | none => undef) = a := by
  cases d with
  | none => rfl
  | some d =>
    simp only [Act.put]
    have h : a.tmps.setIfInBounds d (a.tmps.getD d undef) = a.tmps := by
      apply Array.ext
      · simp
      · intro i h1 h2
        rw [Array.getElem_setIfInBounds h2]
        split
        · rename_i e
          subst e
          simp [Array.getD, h2]
        · rfl
    rw [h]
theorem putAll_put_none : ∀ (l : List Oper) (xs : List Value) (a : Act) (d : Option Tmp) (v : Value), noneOf d l = true → (putAll a l xs).put d v = putAll (a.put d v) l xs
  | [], xs, a, d, v, h => by simp [putAll]
  | o :: l, [], a, d, v, h => by simp [putAll]
  | o :: l, x :: xs, a, d, v, h => by
    have h1 : noneOf d l = true := by
      cases d with
      | none => rfl
      | some d => simp only [noneOf, List.all_cons, Bool.and_eq_true] at h ⊢; exact h.2
    rw [putAll, putAll, putAll_put_none l xs _ d v h1, put_comm]
    intro p q hp hq e
    subst e
    rw [hq] at h
    simp [noneOf, hp] at h
theorem putAll_put : ∀ (l : List Oper) (xs : List Value) (a : Act) (i : Nat) (o : Oper) (v : Value), dstB l = true → l[i]? = some o → i < xs.length → (putAll a l xs).put o.dst v = putAll a l (xs.set i v)
  | [], xs, a, i, o, v, hd, ho, hi => by simp at ho
  | p :: l, [], a, i, o, v, hd, ho, hi => by simp at hi
  | p :: l, x :: xs, a, 0, o, v, hd, ho, hi => by
    obtain rfl : p = o := by simpa using ho
    simp only [dstB, Bool.and_eq_true] at hd
    rw [putAll, List.set_cons_zero, putAll, putAll_put_none l xs _ _ v hd.1, put_put]
  | p :: l, x :: xs, a, i + 1, o, v, hd, ho, hi => by
    simp only [dstB, Bool.and_eq_true] at hd
    rw [putAll, List.set_cons_succ, putAll, putAll_put l xs _ i o v hd.2 (by simpa using ho) (by simpa using hi)]
def ownVals (a : Act) (l : List Oper) : List Value := l.map fun o => match o.dst with | some d => a.tmps.getD d undef | none => undef
theorem putAll_own : ∀ (l : List Oper) (a : Act) (n : Nat), putAll a l ((ownVals a l).take n) = a
  | [], a, n => by simp [putAll]
  | o :: l, a, 0 => by simp [putAll]
  | o :: l, a, n + 1 => by
    have h := putAll_own l a n
    unfold ownVals at h ⊢
    rw [List.map_cons, List.take_succ_cons, putAll, put_own]
    exact h

/-- What holds of an operation's value, by the values on which it waits, the blocks from lo to hi, and the world; it stays while these blocks do. -/
structure Fact where
  p : Value → List Value → Nat → Nat → World → Prop
  mono : ∀ {v : Value} {d : List Value} {lo hi : Nat} {w w' : World}, (∀ b, b < hi → w'.heap[b]? = w.heap[b]?) → p v d lo hi w → p v d lo hi w'
def Fact.val (f : List Value → Value) : Fact := ⟨fun v d _ _ _ => v = f d, fun _ h => h⟩
def Fact.is (q : Value → List Value → Prop) : Fact := ⟨fun v d _ _ _ => q v d, fun _ h => h⟩
def Fact.box (f : List Value → Obj) : Fact := ⟨fun v d lo hi w => ∃ b, lo ≤ b ∧ b < hi ∧ v = .pointer (some ⟨b, 0, none⟩) ∧ w.heap[b]? = some (f d), fun hk ⟨b, h1, h2, h3, h4⟩ => ⟨b, h1, h2, h3, (hk b h2).trans h4⟩⟩
def Fact.row (n : Nat) (f : List Value → Obj) : Fact := ⟨fun v d lo hi w => ∃ b, lo ≤ b ∧ b < hi ∧ v = .slice (some ⟨b, 0, none⟩) n n ∧ w.heap[b]? = some (f d), fun hk ⟨b, h1, h2, h3, h4⟩ => ⟨b, h1, h2, h3, (hk b h2).trans h4⟩⟩
def Fact.own (base e size n : Nat) (xs : List Value → List Value) : Fact := ⟨fun v d lo hi w => (∀ b, v.ownBlock = some b → lo ≤ b ∧ b < hi) ∧ w.ownsRow base e size v n (xs d), fun hk ⟨h1, h2⟩ => ⟨h1, ownsRow_of_block h2 fun b hb => hk b (h1 b hb).2⟩⟩
def Fact.any : Fact := ⟨fun _ _ _ _ _ => True, fun _ _ => trivial⟩

/-- Where just the operations of L have been run, all of the first n. -/
structure Made (R : Nat → Fact) (l : List Oper) (n : Nat) (w0 : World) (L : Nat → Prop) (xs : List Value) (lo hi : Nat → Nat) (w : World) : Prop where
  len : xs.length = n
  closed : ∀ j, L j → ∀ d, (deps l j).contains d = true → L d
  lt : ∀ j, L j → j < n
  bel : Below w0.heap.size w0 w
  rel : ∀ j, L j → (R j).p (xs.getD j undef) ((deps l j).map fun d => xs.getD d undef) (lo j) (hi j) w
  lohi : ∀ j, L j → w0.heap.size ≤ lo j ∧ lo j ≤ hi j ∧ hi j ≤ w.heap.size
  apart : ∀ i j, L i → L j → i ≠ j → hi i ≤ lo j ∨ hi j ≤ lo i

section
variable {P : Program} {R : Nat → Fact} {l : List Oper} {n : Nat} {w0 w : World} {L : Nat → Prop} {xs : List Value} {lo hi : Nat → Nat}

theorem deps_binds {i d : Nat} {o : Oper} (ho : l[i]? = some o) (h : (deps l i).contains d = true) : ∃ e ∈ o.after, Region.binds .any e = true ∧ e.on = d := by
  unfold deps at h
  rw [ho] at h
  simp only [depsOf, List.contains_iff_mem, List.mem_map, List.mem_filter] at h
  obtain ⟨e, ⟨h1, h2⟩, h3⟩ := h
  exact ⟨e, by simpa using h1, h2, h3⟩

theorem Made.step (h : Made R l n w0 L xs lo hi w) {i : Nat} (hin : i < n) (hni : ¬ L i) (hpre : ∀ d, (deps l i).contains d = true → L d) {v : Value} {w' : World}
    (hbel : Below w.heap.size w w') (hr : (R i).p v ((deps l i).map fun d => xs.getD d undef) w.heap.size w'.heap.size w') :
    Made R l n w0 (fun j => j = i ∨ L j) (xs.set i v) (fun j => if j = i then w.heap.size else lo j) (fun j => if j = i then w'.heap.size else hi j) w' := by
  have hget : ∀ j, L j → (xs.set i v).getD j undef = xs.getD j undef := by
    intro j hj
    have hne : i ≠ j := fun e => hni (e ▸ hj)
    simp [List.getD, List.getElem?_set_ne hne]
  have hself : (xs.set i v).getD i undef = v := by
    have : i < xs.length := by rw [h.len]; exact hin
    simp [List.getD, this]
  have hmap : ∀ j, (j = i ∨ L j) → ((deps l j).map fun d => (xs.set i v).getD d undef) = (deps l j).map fun d => xs.getD d undef := by
    intro j hj
    refine List.map_congr_left fun d hd => hget d ?_
    have hc : (deps l j).contains d = true := by simpa using hd
    rcases hj with rfl | hj
    · exact hpre d hc
    · exact h.closed j hj d hc
  have hsz := hbel.size
  refine ⟨by rw [List.length_set]; exact h.len, ?_, ?_, h.bel.trans (hbel.mono h.bel.size), ?_, ?_, ?_⟩
  · rintro j (rfl | hj) d hd
    · exact .inr (hpre d hd)
    · exact .inr (h.closed j hj d hd)
  · rintro j (rfl | hj)
    · exact hin
    · exact h.lt j hj
  · rintro j (rfl | hj)
    · rw [hself, hmap j (.inl rfl), if_pos rfl, if_pos rfl]
      exact hr
    · have hne : j ≠ i := fun e => hni (e ▸ hj)
      rw [hget j hj, hmap j (.inr hj), if_neg hne, if_neg hne]
      have h3 := h.lohi j hj
      exact (R j).mono (fun b h2 => hbel.block b (by omega)) (h.rel j hj)
  · rintro j (rfl | hj)
    · rw [if_pos rfl, if_pos rfl]
      exact ⟨h.bel.size, hsz, Nat.le_refl _⟩
    · have hne : j ≠ i := fun e => hni (e ▸ hj)
      rw [if_neg hne, if_neg hne]
      have := h.lohi j hj
      omega
  · rintro p q (rfl | hp) (rfl | hq) hpq
    · exact absurd rfl hpq
    · have hne : q ≠ p := fun e => hpq e.symm
      rw [if_pos rfl, if_pos rfl, if_neg hne, if_neg hne]
      exact .inr (h.lohi q hq).2.2
    · rw [if_pos rfl, if_pos rfl, if_neg hpq, if_neg hpq]
      exact .inl (h.lohi p hp).2.2
    · have h1 : p ≠ i := fun e => hni (e ▸ hp)
      have h2 : q ≠ i := fun e => hni (e ▸ hq)
      rw [if_neg h1, if_neg h1, if_neg h2, if_neg h2]
      exact h.apart p q hp hq hpq

theorem Made.start {a0 : Act} (hl : n ≤ l.length) (w : World) : Made R l n w (fun _ => False) ((ownVals a0 l).take n) (fun _ => 0) (fun _ => 0) w.drew :=
  ⟨by simp [ownVals]; omega, fun _ h => h.elim, fun _ h => h.elim, ⟨rfl, rfl, rfl, Nat.le_refl _, fun _ _ => rfl⟩, fun _ h => h.elim, fun _ h => h.elim, fun _ _ h => h.elim⟩

/-- Do all operations stand ahead of one? -/
def aheadB (l : List Oper) (n : Nat) : Bool :=
  let rec go : Nat → List Bool → List Bool
    | 0, s => s
    | f + 1, s => go f ((List.range n).map fun j => s.getD j false || (List.range n).any fun i => s.getD i false && (deps l i).contains j)
  (go n ((List.range n).map fun j => (deps l n).contains j)).all id
theorem ahead_go {n : Nat} (hc : ∀ j, L j → ∀ d, (deps l j).contains d = true → L d) : ∀ (f : Nat) (s : List Bool), (∀ j, s.getD j false = true → L j) → ∀ j, (aheadB.go l n f s).getD j false = true → L j
  | 0, s, h, j, hj => h j hj
  | f + 1, s, h, j, hj => by
    rw [aheadB.go] at hj
    refine ahead_go hc f _ (fun q hq => ?_) j hj
    rw [List.getD_eq_getElem?_getD, List.getElem?_map] at hq
    cases hr : (List.range n)[q]? with
    | none => rw [hr] at hq; simp at hq
    | some r =>
      rw [hr] at hq
      obtain rfl : r = q := by
        have := List.getElem?_eq_some_iff.1 hr
        obtain ⟨h1, h2⟩ := this
        rw [List.getElem_range] at h2
        exact h2.symm
      simp only [Option.map_some, Option.getD_some, Bool.or_eq_true, List.any_eq_true, Bool.and_eq_true] at hq
      rcases hq with hq | ⟨i, -, h1, h2⟩
      · exact h r hq
      · exact hc i (h i h1) r h2
theorem ahead_all (h : aheadB l n = true) (hc : ∀ j, L j → ∀ d, (deps l j).contains d = true → L d) (hd : ∀ d, (deps l n).contains d = true → L d) : ∀ j, j < n → L j := by
  have hlen : ∀ (f : Nat) (s : List Bool), s.length = n → (aheadB.go l n f s).length = n := by
    intro f
    induction f with
    | zero => intro s hs; exact hs
    | succ f ih => intro s hs; rw [aheadB.go]; exact ih _ (by simp)
  intro j hj
  refine ahead_go (n := n) hc n ((List.range n).map fun j => (deps l n).contains j) (fun q hq => ?_) j ?_
  · rw [List.getD_eq_getElem?_getD, List.getElem?_map] at hq
    cases hr : (List.range n)[q]? with
    | none => rw [hr] at hq; simp at hq
    | some r =>
      rw [hr] at hq
      obtain ⟨h1, h2⟩ := List.getElem?_eq_some_iff.1 hr
      rw [List.getElem_range] at h2
      subst h2
      exact hd _ (by simpa using hq)
  · unfold aheadB at h
    have h1 := List.all_eq_true.1 h
    have h2 : j < (aheadB.go l n n ((List.range n).map fun j => (deps l n).contains j)).length := by rw [hlen _ _ (by simp)]; exact hj
    rw [List.getD_eq_getElem?_getD, List.getElem?_eq_getElem h2]
    simpa using h1 _ (List.getElem_mem h2)


theorem wpOp_mono {ops : Array Oper} {Q : Exit → Act → World → Prop} {i : Nat} {K K' : Act → World → Prop} {a : Act} (h : wpOp P ops Q i K a w) (hk : ∀ a' w', K a' w' → K' a' w') : wpOp P ops Q i K' a w := by
  unfold wpOp at h ⊢
  cases ho : ops[i]? with
  | none => rw [ho] at h; exact hk _ _ h
  | some o =>
    rw [ho] at h
    dsimp only at h ⊢
    split
    · rename_i hw
      rw [if_pos hw] at h
      rcases h with h | h
      · exact .inl (wp_weaken hk (fun _ _ _ h => h) (fun h => h) h)
      · exact .inr h
    · rename_i hw
      rw [if_neg hw] at h
      exact hk _ _ h

/-- A region by what holds behind each set of its operations; each operation as the region itself asks it. -/
theorem wp_region_inv2 (I : (Nat → Prop) → Act → World → Prop) {id : Nat} {Q : Exit → Act → World → Prop} {a : Act} (hm : P.follows .mixedOrders = true) (hb : backB .any l.toArray = true)
    (h0 : I (fun _ => False) a w.drew)
    (hstep : ∀ (L : Nat → Prop) (i : Nat) (a : Act) (w : World), i < l.length → ¬ L i → (∀ d, (deps l i).contains d = true → L d) → I L a w → wpOp P l.toArray Q i (fun a' w' => I (fun j => j = i ∨ L j) a' w') a w)
    (hend : ∀ (L : Nat → Prop) (a : Act) (w : World), (∀ j, j < l.length → L j) → I L a w → Q .normal a w) :
    (Code.region id l.toArray true).wp P Q a w := by
  have main : ∀ (fuel : Nat) (listed : Array Bool) (a : Act) (w : World), listed.size = l.toArray.size → listed.toList.count false ≤ fuel → I (fun j => listed.getD j false = true) a w →
      wpAny P .any l.toArray Q fuel listed a w := by
    intro fuel
    induction fuel with
    | zero =>
      intro listed a w hsz hc hI
      have hall : ∀ j, j < listed.size → listed.getD j false = true := fun j hj => by
        cases hx : listed.getD j false with
        | true => rfl
        | false =>
          exfalso
          have h1 := count_set_true hj (by rw [getD_flip hj true false]; exact hx)
          omega
      refine ⟨?_, hend _ a w (fun j hj => hall j (by rw [hsz]; simpa using hj)) hI⟩
      rw [List.eq_nil_iff_forall_not_mem]
      intro j hj
      obtain ⟨h1, x, hx, _⟩ := mem_ready.1 hj
      have hjl : j < listed.size := by rw [hsz]; exact (Array.getElem?_eq_some_iff.1 hx).1
      rw [getD_flip hjl true false, hall j hjl] at h1
      cases h1
    | succ fuel ih =>
      intro listed a w hsz hc hI
      refine ⟨fun he => hend _ a w (fun j hj => ?_) hI, fun i hi => ?_⟩
      · have hjl : j < listed.size := by rw [hsz]; simpa using hj
        cases hx : listed.getD j false with
        | true => rfl
        | false => exact absurd he (some_ready hb listed hsz j (by rw [← hsz]; exact hjl) (by rw [getD_flip hjl true false]; exact hx))
      · obtain ⟨h1, x, hx, h2⟩ := mem_ready.1 hi
        have hil : i < listed.size := by rw [hsz]; exact (Array.getElem?_eq_some_iff.1 hx).1
        have hxl : l[i]? = some x := by simpa using hx
        have hs := hstep (fun j => listed.getD j false = true) i a w (by rw [hsz] at hil; simpa using hil) (by rw [getD_flip hil false true, h1]; simp) (fun d hd => by
          obtain ⟨e, e1, e2, rfl⟩ := deps_binds hxl hd
          exact h2 e e1 e2) hI
        refine wpOp_mono hs fun a' w' hK => ?_
        refine ih _ a' w' (by simpa using hsz) (by have := count_set_true hil h1; omega) ?_
        have he : (fun j => (listed.setIfInBounds i true).getD j false = true) = fun j => j = i ∨ listed.getD j false = true := by
          funext j
          exact propext (getD_set_iff hil)
        rw [he]
        exact hK
  refine wp_region_any hm (main _ _ a _ (by simp) (by simp) ?_)
  have he : (fun j => (Array.replicate l.toArray.size false).getD j false = true) = fun _ => False := by
    funext j
    apply propext
    refine ⟨fun h => ?_, fun h => h.elim⟩
    have h1 : (Array.replicate l.toArray.size false).getD j false = false := by simp [Array.getD]
    rw [h1] at h
    cases h
  rw [he]
  exact h0

def tailB (l : List Oper) (n : Nat) : Bool := (List.range (l.length - n)).all fun t => aheadB l (n + t)

end
/-- Cells and contracts at all worlds behind one. -/
theorem kin_cell {C : World → Prop} {w : World} (hC : C = fun w' => Below w.heap.size w w') {b o : Nat} {v : Value} (h : w.cell? ⟨b, o, none⟩ = some v) : ∀ y : Kin C, y.w.cell? ⟨b, o, none⟩ = some v := by
  subst hC
  exact fun y => below_cells y.has _ _ h
theorem kin_call {P : Program} {C : World → Prop} {w : World} (hC : C = fun w' => Below w.heap.size w w') {f : FuncId} {args : Array Value} {v : Value}
    (h : ∀ y, Below w.heap.size w y → Calls P f args y fun e w' => e = .returned v ∧ Below y.heap.size y w') : ∀ y : Kin C, Calls P f args y.w fun e w' => e = .returned v ∧ C w' := by
  subst hC
  exact fun y => (h y.w y.has).mono fun e w' ⟨he, hb⟩ => ⟨he, y.has.trans (hb.mono y.has.size)⟩
end Go.Proofs.YtaooibocknemkaaGreat
end

section
namespace Go.Proofs.YtaooibocknemkaaGreat
open Go.RowKit Go.BigFrame
set_option linter.unusedVariables false
set_option linter.unusedSimpArgs false

noncomputable def eqB {α : Type} (a b : α) : Bool := @decide (a = b) (Classical.propDecidable _)
theorem eqB_yes {α : Type} {a b : α} (h : a = b) : eqB a b = true := @decide_eq_true _ (Classical.propDecidable _) h
theorem eqB_no {α : Type} {a b : α} (h : a ≠ b) : eqB a b = false := @decide_eq_false _ (Classical.propDecidable _) h
theorem strEq_any (v1 v2 : Value) (l m : List ByteArray) (w : World) (h1 : SlAt rpStr w v1 l) (h2 : SlAt rpStr w v2 m) : Calls Tryz.prog 108 #[v1, v2] w (BIs (eqB l m) w) := by
  obtain ⟨a, c, rfl, hl1, hl2⟩ := h1.shape
  obtain ⟨e, g, rfl, hm1, hm2⟩ := h2.shape
  rw [maxLen_eq] at hl2 hm2
  by_cases hlm : l.length = m.length
  rotate_left
  · refine (Tryz.slices_Equal_string_lens a e l.length c m.length g w hlm).mono ?_
    rintro en w' ⟨rfl, rfl⟩
    exact ⟨ret_bool (eqB_no (fun h => hlm (by rw [h]))).symm, Below.refl _ _⟩
  rcases Nat.eq_zero_or_pos l.length with h0 | h0
  · have e1 : l = [] := List.eq_nil_of_length_eq_zero h0
    have e2 : m = [] := List.eq_nil_of_length_eq_zero (by omega)
    subst e1
    subst e2
    refine (Tryz.slices_Equal_string_empty a e c 0 g w (by omega)).mono ?_
    rintro en w' ⟨rfl, rfl⟩
    exact ⟨ret_bool (by rw [eqB_yes rfl]; rfl), Below.refl _ _⟩
  · obtain ⟨⟨a', c', ea, -, -, -, -, ha⟩, -⟩ := row_of_strs h1
    obtain ⟨⟨e', g', ee, -, -, -, -, he⟩, -⟩ := row_of_strs h2
    obtain ⟨b1, o1, x1, rfl, -, -, -⟩ := h1.str h0
    obtain ⟨b2, o2, x2, rfl, -, -, -⟩ := h2.str (i := 0) (by omega)
    obtain ⟨rfl, rfl⟩ : a' = some ⟨b1, o1, none⟩ ∧ c' = c := by cases ea; exact ⟨rfl, rfl⟩
    obtain ⟨rfl, rfl⟩ : e' = some ⟨b2, o2, none⟩ ∧ g' = g := by cases ee; exact ⟨rfl, rfl⟩
    have get : ∀ (l : List ByteArray) (j : Nat), j < l.length → (strCells l)[j]? = some (.string (l.getD j ByteArray.empty)) := by
      intro l j hj
      simp [strCells, List.getD, List.getElem?_eq_getElem hj]
    refine (Tryz.slices_Equal_string b1 o1 l.length c' b2 o2 m.length g' l m w (Nat.le_refl _) (Nat.le_refl _) (by omega) (by omega) (fun j hj => ?_) (fun j hj => ?_)).mono ?_
    · have := ha _ rfl j _ (get l j hj)
      rwa [Addr.add_lit] at this
    · have := he _ rfl j _ (get m j hj)
      rwa [Addr.add_lit] at this
    · rintro en w' ⟨rfl, q, rfl⟩
      refine ⟨ret_bool ?_, below_drewN _ _⟩
      rw [List.take_length, List.take_length]
      by_cases h : l = m
      · rw [eqB_yes h, decide_eq_true h]
      · rw [eqB_no h, decide_eq_false h]

def outV (x : POut) : Value := .agg #[.int .i64 x.val, .string x.script]
theorem guardOut : Tryz.prog.eqGuardType Tryz.prog.depth 66 = false := by kernel_rfl
theorem eqIn_out (a b : POut) (w : World) : (Op.equalIn 10000 66 (outV a) (outV b)).run Tryz.prog w = .ok (eqB a b) w := by
  have hS : Tryz.prog.underlying 66 = some (.struct (Tryz.prog.fieldsOf 66)) := by kernel_rfl
  have hp : Tryz.prog.stoodInHeld 66 = false := by kernel_rfl
  obtain ⟨a1, a2⟩ := a
  obtain ⟨b1, b2⟩ := b
  unfold outV
  dsimp only
  rw [show (10000 : Nat) = 9999 + 1 from rfl, run_equalIn_agg w 9999 66 _ _ hS hp]
  simp only [Program.fieldsOf, Tryz.underlying66]
  have u1 := Tryz.underlying9
  have u2 := Tryz.underlying3
  go_simp
  rw [ByteArray.toList_eq, ByteArray.toList_eq]
  by_cases h1 : a1 = b1
  · subst h1
    by_cases h2 : a2 = b2
    · subst h2
      rw [eqB_yes rfl]
      simp
    · have : a2.data.toList ≠ b2.data.toList := fun h => h2 (by cases a2; cases b2; simp at h; simp [h])
      rw [eqB_no (fun h => h2 (congrArg POut.script h))]
      simp [this]
  · rw [eqB_no (fun h => h1 (congrArg POut.val h))]
    simp [h1]
set_option maxHeartbeats 1000000 in
theorem outEq_any (v1 v2 : Value) (l m : List POut) (w : World) (h1 : SlAt rpOut w v1 l) (h2 : SlAt rpOut w v2 m) : Calls Tryz.prog 83 #[v1, v2] w (BIs (eqB l m) w) := by
  obtain ⟨a, c, rfl, hl1, hl2⟩ := h1.shape
  obtain ⟨e, g, rfl, hm1, hm2⟩ := h2.shape
  rw [maxLen_eq] at hl2 hm2
  obtain ⟨r, hr⟩ : ∃ r, r = eqB l m := ⟨_, rfl⟩
  rw [← hr]
  obtain ⟨n, hn⟩ : ∃ n, n = l.length := ⟨_, rfl⟩
  obtain ⟨n', hn'⟩ : ∃ n, n = m.length := ⟨_, rfl⟩
  rw [← hn] at h1 hl1 ⊢
  rw [← hn'] at h2 hm1 ⊢
  have HR := Lib.hid hr
  have HN := Lib.hid hn
  have HN' := Lib.hid hn'
  have H1 := Lib.hid h1
  have H2 := Lib.hid h2
  clear hr hn hn' h1 h2
  go_enter Tryz.func83, Tryz.ntmps83
  by_cases hlm : n = n'
  rotate_left
  · have hz : (n : Int) ≠ n' := by omega
    have HF := Lib.hid (show r = false by rw [HR.out]; exact eqB_no (fun h => hlm (by rw [HN.out, HN'.out, h])))
    go_wp2_with fail
    go_ret
    exact ⟨ret_bool HF.out.symm, Below.refl _ _⟩
  subst hlm
  go_wp2_with fail
  go_loopg [13] n (fun gq i wr => ∃ (k : Nat), gq = n - k ∧ k ≤ n ∧ i = .int .i64 k ∧ Below w.heap.size w wr ∧ ∀ (j : Nat) (x y : POut), j < k → l[j]? = some x → m[j]? = some y → x = y)
  case atStart => exact ⟨0, rfl, by omega, rfl, Below.refl _ _, fun j x y hj => absurd hj (Nat.not_lt_zero _)⟩
  case round =>
    rename World => wo
    obtain ⟨k, hgk, hk, rfl, hb, hall⟩ := hrel
    have HGK := Lib.hid hgk
    have HALL := Lib.hid hall
    have HB := Lib.hid hb
    clear hgk hall hb
    by_cases hlt : k < n
    · obtain ⟨b1, o1, x, rfl, hx, -, x0, x1⟩ := (H1.out.below HB.out).outp hlt
      obtain ⟨b2, o2, y, rfl, hy, -, y0, y1⟩ := (H2.out.below HB.out).outp hlt
      have HX := Lib.hid hx
      have HY := Lib.hid hy
      clear hx hy
      have hlo : (0 : Int) ≤ (k : Int) := by omega
      have hgo := guardOut
      by_cases hxy : x = y
      · subst hxy
        have heq : ∀ w : World, (Op.equalIn 10000 66 (.agg #[.int .i64 x.val, .string x.script]) (.agg #[.int .i64 x.val, .string x.script])).run Tryz.prog w = .ok true w := fun w => by have := eqIn_out x x w; rw [eqB_yes rfl] at this; exact this
        have HST := Lib.hid (same_step HALL.out HX.out HY.out rfl)
        go_wp2_with fail
        go_quiet (fail)
        have HB2 := Lib.hid (HB.out.trans ((below_drewN wo nq).mono HB.out.size))
        go_wp2_with fail
        go_roundg (n - (k + 1))
        case measure => have := HGK.out; omega
        case rel => exact ⟨k + 1, rfl, by omega, by go_num, HB2.out, HST.out⟩
      · have heq : ∀ w : World, (Op.equalIn 10000 66 (.agg #[.int .i64 x.val, .string x.script]) (.agg #[.int .i64 y.val, .string y.script])).run Tryz.prog w = .ok false w := fun w => by have := eqIn_out x y w; rw [eqB_no hxy] at this; exact this
        have HF := Lib.hid (show r = false by rw [HR.out]; exact eqB_no (ne_at HX.out HY.out hxy))
        clear hxy
        go_wp2_with fail
        go_quiet (fail)
        have HB2 := Lib.hid (HB.out.trans ((below_drewN wo nq).mono HB.out.size))
        go_wp2_with fail
        go_ret
        exact ⟨ret_bool HF.out.symm, HB2.out⟩
    · obtain rfl : k = n := by omega
      have HF := Lib.hid (show r = true by rw [HR.out]; exact eqB_yes (list_same (by rw [← HN.out, ← HN'.out]) (fun j x y hj => HALL.out j x y (by rw [HN.out]; exact hj))))
      go_wp2_with fail
      go_ret
      exact ⟨ret_bool HF.out.symm, HB.out⟩

theorem in_below {w w' : World} {v : Value} {x : PIn} (h : InAt w v x) (hb : Below w.heap.size w w') : InAt w' v x := by
  obtain ⟨wv, h1, h2, h3, h4, h5⟩ := h
  exact ⟨wv, h1, h2.below hb, h3, h4, h5⟩
theorem in_ne_pt {x y : PIn} (h : (x.id, x.idx) ≠ (y.id, y.idx)) : x ≠ y := fun e => h (by rw [e])
theorem in_eq {x y : PIn} (h : (x.id, x.idx) = (y.id, y.idx)) (hs : x.seq = y.seq) (hw : x.wit = y.wit) : x = y := by
  have h1 := congrArg Prod.fst h
  have h2 := congrArg Prod.snd h
  exact in_same h1 h2 hs hw
set_option maxHeartbeats 1000000 in
theorem inEq_any (v1 v2 : Value) (x y : PIn) (w : World) (h1 : InAt w v1 x) (h2 : InAt w v2 y) : Calls Tryz.prog 82 #[v1, v2] w (BIs (eqB x y) w) := by
  obtain ⟨u1, rfl, hs1, -, -, -⟩ := h1
  obtain ⟨u2, rfl, hs2, -, -, -⟩ := h2
  obtain ⟨a1, c1, rfl, -, -⟩ := hs1.shape
  obtain ⟨a2, c2, rfl, -, -⟩ := hs2.shape
  obtain ⟨r, hr⟩ : ∃ r, r = eqB x y := ⟨_, rfl⟩
  rw [← hr]
  obtain ⟨l, hl⟩ : ∃ l, l = x.wit.length := ⟨_, rfl⟩
  obtain ⟨l2, hl2⟩ : ∃ l, l = y.wit.length := ⟨_, rfl⟩
  rw [← hl] at hs1 ⊢
  rw [← hl2] at hs2 ⊢
  have HR := Lib.hid hr
  obtain ⟨hal, hz1, hz2⟩ := two_boxes w #[.string x.id, .int .u32 x.idx, .int .u32 x.seq, .slice a1 l c1] #[.string y.id, .int .u32 y.idx, .int .u32 y.seq, .slice a2 l2 c2] 69
  have H1 := Lib.hid (hs1.below hal)
  have H2 := Lib.hid (hs2.below hal)
  clear hr hs1 hs2 hl hl2
  go_enter Tryz.func82, Tryz.ntmps82
  go_upto_region 1 with fail
  generalize (w.alloc (.cells #[.string x.id, .int .u32 x.idx, .int .u32 x.seq, .slice a1 l c1] 69)).alloc (.cells #[.string y.id, .int .u32 y.idx, .int .u32 y.seq, .slice a2 l2 c2] 69) = w0 at *
  have p0 : w0.cell? ⟨w.heap.size, 0, none⟩ = some (.string x.id) := cell_at hz1
  have p1 : w0.cell? ⟨w.heap.size, 1, none⟩ = some (.int .u32 x.idx) := cell_at hz1
  have p2 : w0.cell? ⟨w.heap.size, 2, none⟩ = some (.int .u32 x.seq) := cell_at hz1
  have p3 : w0.cell? ⟨w.heap.size, 3, none⟩ = some (.slice a1 l c1) := cell_at hz1
  have q0 : w0.cell? ⟨w.heap.size + 1, 0, none⟩ = some (.string y.id) := cell_at hz2
  have q1 : w0.cell? ⟨w.heap.size + 1, 1, none⟩ = some (.int .u32 y.idx) := cell_at hz2
  have q2 : w0.cell? ⟨w.heap.size + 1, 2, none⟩ = some (.int .u32 y.seq) := cell_at hz2
  have q3 : w0.cell? ⟨w.heap.size + 1, 3, none⟩ = some (.slice a2 l2 c2) := cell_at hz2
  have HAL := Lib.hid hal
  have hgp := guardPt
  clear hal hz1 hz2
  by_cases hpt : (x.id, x.idx) = (y.id, y.idx)
  rotate_left
  · have heq : ∀ w : World, (Op.equalIn 10000 31 (.agg #[.string x.id, .int .u32 x.idx]) (.agg #[.string y.id, .int .u32 y.idx])).run Tryz.prog w = .ok false w := fun w => by have := eqIn_pt (x.id, x.idx) (y.id, y.idx) w; rw [decide_eq_false hpt] at this; exact this
    have HF := Lib.hid (show r = false by rw [HR.out]; exact eqB_no (in_ne_pt hpt))
    clear hpt
    go_wp2_with fail
    go_ret
    exact ⟨ret_bool HF.out.symm, HAL.out⟩
  have heq : ∀ w : World, (Op.equalIn 10000 31 (.agg #[.string x.id, .int .u32 x.idx]) (.agg #[.string y.id, .int .u32 y.idx])).run Tryz.prog w = .ok true w := fun w => by have := eqIn_pt (x.id, x.idx) (y.id, y.idx) w; rw [decide_eq_true hpt] at this; exact this
  have HP := Lib.hid hpt
  clear hpt
  by_cases hsq : x.seq = y.seq
  rotate_left
  · have hz : (x.seq : Int) ≠ y.seq := by omega
    have HF := Lib.hid (show r = false by rw [HR.out]; exact eqB_no (fun h => hsq (by rw [h])))
    clear hsq
    go_wp2_with fail
    go_ret
    exact ⟨ret_bool HF.out.symm, HAL.out⟩
  rw [← hsq] at q2
  have HS := Lib.hid hsq
  clear hsq
  have hrw : eqB x.wit y.wit = r := by
    rw [HR.out]
    by_cases hw : x.wit = y.wit
    · rw [eqB_yes hw, eqB_yes (in_eq HP.out HS.out hw)]
    · rw [eqB_no hw, eqB_no (fun h => hw (by rw [h]))]
  have HE := Lib.hid (hrw ▸ strEq_any _ _ _ _ w0 H1.out H2.out)
  clear hrw
  go_wp2_with fail
  refine HE.out.mono ?_
  rintro e w1 ⟨rfl, hb⟩
  go_wp2_with fail
  go_ret
  exact ⟨rfl, HAL.out.trans (hb.mono HAL.out.size)⟩

set_option maxHeartbeats 1000000 in
theorem insEq_any (v1 v2 : Value) (l m : List PIn) (w : World) (h1 : SlAt rpIn w v1 l) (h2 : SlAt rpIn w v2 m) : Calls Tryz.prog 81 #[v1, v2, .func (.func 82) #[] #[]] w (BIs (eqB l m) w) := by
  obtain ⟨a, c, rfl, hl1, hl2⟩ := h1.shape
  obtain ⟨e, g, rfl, hm1, hm2⟩ := h2.shape
  rw [maxLen_eq] at hl2 hm2
  obtain ⟨r, hr⟩ : ∃ r, r = eqB l m := ⟨_, rfl⟩
  rw [← hr]
  obtain ⟨n, hn⟩ : ∃ n, n = l.length := ⟨_, rfl⟩
  obtain ⟨n', hn'⟩ : ∃ n, n = m.length := ⟨_, rfl⟩
  rw [← hn] at h1 hl1 ⊢
  rw [← hn'] at h2 hm1 ⊢
  have HR := Lib.hid hr
  have HN := Lib.hid hn
  have HN' := Lib.hid hn'
  have H1 := Lib.hid h1
  have H2 := Lib.hid h2
  clear hr hn hn' h1 h2
  go_enter Tryz.func81, Tryz.ntmps81
  by_cases hlm : n = n'
  rotate_left
  · have hz : (n : Int) ≠ n' := by omega
    have HF := Lib.hid (show r = false by rw [HR.out]; exact eqB_no (fun h => hlm (by rw [HN.out, HN'.out, h])))
    go_wp2_with fail
    go_ret
    exact ⟨ret_bool HF.out.symm, Below.refl _ _⟩
  subst hlm
  go_wp2_with fail
  go_loopg [17] n (fun gq i wr => ∃ (k : Nat), gq = n - k ∧ k ≤ n ∧ i = .int .i64 k ∧ Below w.heap.size w wr ∧ ∀ (j : Nat) (x y : PIn), j < k → l[j]? = some x → m[j]? = some y → x = y)
  case atStart => exact ⟨0, rfl, by omega, rfl, Below.refl _ _, fun j x y hj => absurd hj (Nat.not_lt_zero _)⟩
  case round =>
    rename World => wo
    obtain ⟨k, hgk, hk, rfl, hb, hall⟩ := hrel
    have HGK := Lib.hid hgk
    have HALL := Lib.hid hall
    have HB := Lib.hid hb
    clear hgk hall hb
    by_cases hlt : k < n
    · obtain ⟨b1, o1, x, wv, rfl, hx, hseq, hidx, hid, hwv, x0, x1, x2, x3⟩ := (H1.out.below HB.out).inp hlt
      obtain ⟨b2, o2, y, wv2, rfl, hy, hseq2, hidx2, hid2, hwv2, y0, y1, y2, y3⟩ := (H2.out.below HB.out).inp hlt
      obtain ⟨a1, c1, rfl, -, -⟩ := hwv.shape
      obtain ⟨a2, c2, rfl, -, -⟩ := hwv2.shape
      have HX := Lib.hid hx
      have HY := Lib.hid hy
      have A1 := Lib.hid (show InAt wo (.agg #[.string x.id, .int .u32 x.idx, .int .u32 x.seq, .slice a1 x.wit.length c1]) x from ⟨_, rfl, hwv, hidx, hseq, hid⟩)
      have A2 := Lib.hid (show InAt wo (.agg #[.string y.id, .int .u32 y.idx, .int .u32 y.seq, .slice a2 y.wit.length c2]) y from ⟨_, rfl, hwv2, hidx2, hseq2, hid2⟩)
      obtain ⟨q1, hq1⟩ : ∃ q, q = x.wit.length := ⟨_, rfl⟩
      obtain ⟨q2, hq2⟩ : ∃ q, q = y.wit.length := ⟨_, rfl⟩
      rw [← hq1] at A1 x3
      rw [← hq2] at A2 y3
      clear hx hy hwv hwv2 hseq hseq2 hidx hidx2 hid hid2 hq1 hq2
      have hlo : (0 : Int) ≤ (k : Int) := by omega
      go_upto_region 6 with fail
      have hz := heap_alloc_new wo (.cells #[.string x.id, .int .u32 x.idx, .int .u32 x.seq, .slice a1 q1 c1] 69)
      have hal : Below wo.heap.size wo (wo.alloc (.cells #[.string x.id, .int .u32 x.idx, .int .u32 x.seq, .slice a1 q1 c1] 69)) := (Below.refl _ _).alloc (Nat.le_refl _) _
      obtain ⟨X, hX⟩ : ∃ q, q = wo.heap.size := ⟨_, rfl⟩
      rw [← hX] at hz ⊢
      generalize wo.alloc (.cells #[.string x.id, .int .u32 x.idx, .int .u32 x.seq, .slice a1 q1 c1] 69) = w1 at *
      have hb := hal
      replace y0 := below_cells hb _ _ y0
      replace y1 := below_cells hb _ _ y1
      replace y2 := below_cells hb _ _ y2
      replace y3 := below_cells hb _ _ y3
      have p0 : w1.cell? ⟨X, 0, none⟩ = some (.string x.id) := cell_at hz
      have p1 : w1.cell? ⟨X, 1, none⟩ = some (.int .u32 x.idx) := cell_at hz
      have p2 : w1.cell? ⟨X, 2, none⟩ = some (.int .u32 x.seq) := cell_at hz
      have p3 : w1.cell? ⟨X, 3, none⟩ = some (.slice a1 q1 c1) := cell_at hz
      have HB1 := Lib.hid hb
      clear hz hal hb hX x0 x1 x2 x3
      go_upto_region 7 with fail
      have hz := heap_alloc_new w1 (.cells #[.string y.id, .int .u32 y.idx, .int .u32 y.seq, .slice a2 q2 c2] 69)
      have hal : Below w1.heap.size w1 (w1.alloc (.cells #[.string y.id, .int .u32 y.idx, .int .u32 y.seq, .slice a2 q2 c2] 69)) := (Below.refl _ _).alloc (Nat.le_refl _) _
      obtain ⟨Y, hY⟩ : ∃ q, q = w1.heap.size := ⟨_, rfl⟩
      rw [← hY] at hz ⊢
      generalize w1.alloc (.cells #[.string y.id, .int .u32 y.idx, .int .u32 y.seq, .slice a2 q2 c2] 69) = w2 at *
      have hb := hal
      replace p0 := below_cells hb _ _ p0
      replace p1 := below_cells hb _ _ p1
      replace p2 := below_cells hb _ _ p2
      replace p3 := below_cells hb _ _ p3
      have q0 : w2.cell? ⟨Y, 0, none⟩ = some (.string y.id) := cell_at hz
      have qq1 : w2.cell? ⟨Y, 1, none⟩ = some (.int .u32 y.idx) := cell_at hz
      have qq2 : w2.cell? ⟨Y, 2, none⟩ = some (.int .u32 y.seq) := cell_at hz
      have q3 : w2.cell? ⟨Y, 3, none⟩ = some (.slice a2 q2 c2) := cell_at hz
      have HB2 := Lib.hid (HB1.out.trans (hb.mono HB1.out.size))
      have HC := Lib.hid (inEq_any _ _ x y w2 (in_below A1.out HB2.out) (in_below A2.out HB2.out))
      clear hz hal hb hY y0 y1 y2 y3 HB1 A1 A2
      by_cases hxy : x = y
      · have HST := Lib.hid (same_step HALL.out HX.out HY.out hxy)
        rw [eqB_yes hxy] at HC
        clear hxy
        go_wp2_with fail
        refine HC.out.mono ?_
        rintro e w3 ⟨rfl, hb⟩
        have HB3 := Lib.hid (HB.out.trans ((HB2.out.trans (hb.mono HB2.out.size)).mono HB.out.size))
        clear hb p0 p1 p2 p3 q0 qq1 qq2 q3
        go_wp2_with fail
        go_roundg (n - (k + 1))
        case measure => have := HGK.out; omega
        case rel => exact ⟨k + 1, rfl, by omega, by go_num, HB3.out, HST.out⟩
      · have HF := Lib.hid (show r = false by rw [HR.out]; exact eqB_no (ne_at HX.out HY.out hxy))
        rw [eqB_no hxy] at HC
        clear hxy
        go_wp2_with fail
        refine HC.out.mono ?_
        rintro e w3 ⟨rfl, hb⟩
        have HB3 := Lib.hid (HB.out.trans ((HB2.out.trans (hb.mono HB2.out.size)).mono HB.out.size))
        clear hb p0 p1 p2 p3 q0 qq1 qq2 q3
        go_wp2_with fail
        go_ret
        exact ⟨ret_bool HF.out.symm, HB3.out⟩
    · obtain rfl : k = n := by omega
      have HF := Lib.hid (show r = true by rw [HR.out]; exact eqB_yes (list_same (by rw [← HN.out, ← HN'.out]) (fun j x y hj => HALL.out j x y (by rw [HN.out]; exact hj))))
      go_wp2_with fail
      go_ret
      exact ⟨ret_bool HF.out.symm, HB.out⟩

set_option maxHeartbeats 1000000 in
theorem equal_any (v1 v2 : Value) (t u : PTx) (w : World) (h1 : TxAt w v1 t) (h2 : TxAt w v2 u) : Calls Tryz.prog 51 #[v1, v2] w (BIs (sameTx t u) w) := by
  obtain ⟨va, vo, rfl, hia, hob, -, -⟩ := h1
  obtain ⟨vc, vq, rfl, hic, hoq, -, -⟩ := h2
  obtain ⟨a, c, rfl, hl1, hl2⟩ := hia.shape
  obtain ⟨a', c', rfl, hl1', hl2'⟩ := hob.shape
  obtain ⟨e, g, rfl, hm1, hm2⟩ := hic.shape
  obtain ⟨e', g', rfl, hm1', hm2'⟩ := hoq.shape
  have htb := T2.start (t := t) (u := u) hia hob hic hoq
  have HTB := Lib.hid htb
  clear htb hia hob hic hoq
  obtain ⟨r, hr⟩ : ∃ r, r = sameTx t u := ⟨_, rfl⟩
  rw [← hr]
  have HR := Lib.hid hr
  clear hr
  obtain ⟨n, hn⟩ : ∃ n, n = t.ins.length := ⟨_, rfl⟩
  obtain ⟨n', hn'⟩ : ∃ n, n = t.outs.length := ⟨_, rfl⟩
  obtain ⟨m, hm⟩ : ∃ n, n = u.ins.length := ⟨_, rfl⟩
  obtain ⟨m', hm'⟩ : ∃ n, n = u.outs.length := ⟨_, rfl⟩
  rw [← hn, ← hn', ← hm, ← hm'] at HTB
  rw [← hn, ← hn', ← hm, ← hm']
  clear hn hn' hm hm' hl1 hl2 hl1' hl2' hm1 hm2 hm1' hm2'
  go_enter Tryz.func51, Tryz.ntmps51
  go_upto_region 1 with fail
  generalize (w.alloc (.cells #[.int .u32 t.ver, .slice a n c, .slice a' n' c', .int .u32 t.lock] 26)).alloc (.cells #[.int .u32 u.ver, .slice e m g, .slice e' m' g', .int .u32 u.lock] 26) = w0 at *
  have c0 : w0.cell? ⟨w.heap.size, 0, none⟩ = some (.int .u32 t.ver) := cell_at HTB.out.box1
  have c1 : w0.cell? ⟨w.heap.size, 1, none⟩ = some (.slice a n c) := cell_at HTB.out.box1
  have c2 : w0.cell? ⟨w.heap.size, 2, none⟩ = some (.slice a' n' c') := cell_at HTB.out.box1
  have c3 : w0.cell? ⟨w.heap.size, 3, none⟩ = some (.int .u32 t.lock) := cell_at HTB.out.box1
  have d0 : w0.cell? ⟨w.heap.size + 1, 0, none⟩ = some (.int .u32 u.ver) := cell_at HTB.out.box2
  have d1 : w0.cell? ⟨w.heap.size + 1, 1, none⟩ = some (.slice e m g) := cell_at HTB.out.box2
  have d2 : w0.cell? ⟨w.heap.size + 1, 2, none⟩ = some (.slice e' m' g') := cell_at HTB.out.box2
  have d3 : w0.cell? ⟨w.heap.size + 1, 3, none⟩ = some (.int .u32 u.lock) := cell_at HTB.out.box2
  by_cases hver : t.ver = u.ver
  rotate_left
  · have hz : (t.ver : Int) ≠ u.ver := by omega
    have HF := Lib.hid (same_no (fun h : t = u => hver (by rw [h])))
    go_wp2_with fail
    go_ret
    exact ⟨ret_bool (by rw [HR.out, HF.out]), HTB.out.bel⟩
  rw [← hver] at d0
  by_cases hlock : t.lock = u.lock
  rotate_left
  · have hz : (t.lock : Int) ≠ u.lock := by omega
    have HF := Lib.hid (same_no (fun h : t = u => hlock (by rw [h])))
    go_wp2_with fail
    go_ret
    exact ⟨ret_bool (by rw [HR.out, HF.out]), HTB.out.bel⟩
  rw [← hlock] at d3
  have HV := Lib.hid (And.intro hver hlock)
  clear hver hlock
  have HE := Lib.hid (insEq_any _ _ _ _ w0 HTB.out.ins1 HTB.out.ins2)
  by_cases hins : t.ins = u.ins
  rotate_left
  · have HF := Lib.hid (same_no (fun h : t = u => hins (by rw [h])))
    rw [eqB_no hins] at HE
    clear hins
    go_wp2_with fail
    refine HE.out.mono ?_
    rintro en w1 ⟨rfl, hb⟩
    go_wp2_with fail
    go_ret
    exact ⟨ret_bool (by rw [HR.out, HF.out]), HTB.out.bel.trans (hb.mono HTB.out.bel.size)⟩
  rw [eqB_yes hins] at HE
  have HI := Lib.hid hins
  clear hins
  go_wp2_with fail
  refine HE.out.mono ?_
  rintro en w1 ⟨rfl, hb⟩
  have hro : eqB t.outs u.outs = r := by
    rw [HR.out]
    by_cases ho : t.outs = u.outs
    · rw [eqB_yes ho, same_yes (tx_same HV.out.1 HI.out ho HV.out.2)]
    · rw [eqB_no ho, same_no (fun h => ho (by rw [h]))]
  replace c2 := below_cells hb _ _ c2
  replace d2 := below_cells hb _ _ d2
  have HTB := Lib.hid (HTB.out.next hb)
  have HE2 := Lib.hid (hro ▸ outEq_any _ _ _ _ w1 HTB.out.outs1 HTB.out.outs2)
  clear hro hb HE
  go_wp2_with fail
  refine HE2.out.mono ?_
  rintro en w2 ⟨rfl, hb⟩
  go_wp2_with fail
  go_ret
  exact ⟨rfl, HTB.out.bel.trans (hb.mono HTB.out.bel.size)⟩
end Go.Proofs.YtaooibocknemkaaGreat
end

section
namespace Go.Proofs.YtaooibocknemkaaGreat
open Go.RowKit Go.BigFrame
theorem stay {w w1 : World} {b : Nat} {ob : Obj} (h : w.heap[b]? = some ob) (hb : Below w.heap.size w w1) : w1.heap[b]? = some ob := (hb.block _ (Array.getElem?_eq_some_iff.1 h).1).trans h
theorem new2 (w : World) (X : Nat) (hX : X = w.heap.size) (o1 o2 : Obj) : ((w.alloc o1).alloc o2).heap[X]? = some o1 ∧ ((w.alloc o1).alloc o2).heap[X + 1]? = some o2 ∧ Below w.heap.size w ((w.alloc o1).alloc o2) := by
  subst hX
  have h1 := heap_alloc_new w o1
  have h2 := heap_alloc_new (w.alloc o1) o2
  have hs : (w.alloc o1).heap.size = w.heap.size + 1 := by simp
  have hb : Below (w.alloc o1).heap.size (w.alloc o1) ((w.alloc o1).alloc o2) := (Below.refl _ _).alloc (Nat.le_refl _) o2
  rw [hs] at h2
  exact ⟨(hb.block _ (Array.getElem?_eq_some_iff.1 h1).1).trans h1, h2, ((Below.refl _ _).alloc (Nat.le_refl _) o1).trans (hb.mono (by omega))⟩
theorem new3 (w : World) (X : Nat) (hX : X = w.heap.size) (o1 o2 o3 : Obj) : (((w.alloc o1).alloc o2).alloc o3).heap[X]? = some o1 ∧ (((w.alloc o1).alloc o2).alloc o3).heap[X + 1]? = some o2 ∧ (((w.alloc o1).alloc o2).alloc o3).heap[X + 1 + 1]? = some o3 ∧ Below w.heap.size w (((w.alloc o1).alloc o2).alloc o3) := by
  obtain ⟨h1, h2, h3⟩ := new2 w X hX o1 o2
  subst hX
  have h4 := heap_alloc_new ((w.alloc o1).alloc o2) o3
  have hs : ((w.alloc o1).alloc o2).heap.size = w.heap.size + 1 + 1 := by simp
  have hb : Below ((w.alloc o1).alloc o2).heap.size ((w.alloc o1).alloc o2) (((w.alloc o1).alloc o2).alloc o3) := (Below.refl _ _).alloc (Nat.le_refl _) o3
  rw [hs] at h4
  exact ⟨(hb.block _ (Array.getElem?_eq_some_iff.1 h1).1).trans h1, (hb.block _ (Array.getElem?_eq_some_iff.1 h2).1).trans h2, h4, h3.trans (hb.mono (by omega))⟩
end Go.Proofs.YtaooibocknemkaaGreat
end

section
namespace Go.Proofs.YtaooibocknemkaaGreat
open Go.RowKit Go.BigFrame
set_option linter.unusedVariables false
set_option linter.unusedSimpArgs false

def RecAt (w : World) (v : Value) (r : PRec) : Prop := ∃ va vb, v = .agg #[.int .i64 r.kind, .int .i64 r.num, .int .u32 r.tx.ver, va, vb, .int .u32 r.tx.lock, .int .i64 r.index, .string r.id, .int .u32 r.idx, .int .i64 r.val, .int .i64 r.br, .int .u16 r.tag, .int .u16 r.delay, .int .u32 r.height, .int .i64 r.dead, .int .i64 r.budget, .int .i64 r.start, .int .i64 r.fee] ∧ SlAt rpIn w va r.tx.ins ∧ SlAt rpOut w vb r.tx.outs ∧ r.Ok
theorem RecAt.below {w w' : World} {v : Value} {r : PRec} (h : RecAt w v r) (hb : Below w.heap.size w w') : RecAt w' v r := by
  obtain ⟨va, vb, e, h1, h2, h3⟩ := h
  exact ⟨va, vb, e, h1.below hb, h2.below hb, h3⟩
structure PCm where
  id : ByteArray
  idx : Nat
  val : Int
  br : Int
  tag : Nat
  delay : Nat
  height : Nat
  dead : Int
def PRec.cl (r : PRec) : PCm := ⟨r.id, r.idx, r.val, r.br, r.tag, r.delay, r.height, r.dead⟩
noncomputable def sameC (a b : PCm) : Bool := @decide (a = b) (Classical.propDecidable _)
theorem sameC_iff {a b : PCm} : sameC a b = true ↔ a = b := @decide_eq_true_iff _ (Classical.propDecidable _)
theorem guardCl : Tryz.prog.eqGuardType Tryz.prog.depth 33 = false := by kernel_rfl
set_option maxRecDepth 100000 in
theorem eqPt_d (d : Nat) (a1 b1 : ByteArray) (a2 b2 : Nat) (w : World) : (Op.equalIn (d + 1 + 1) 31 (.agg #[.string a1, .int .u32 a2]) (.agg #[.string b1, .int .u32 b2])).run Tryz.prog w = .ok ((a1.toList == b1.toList) && ((a2 : Int) == (b2 : Int))) w := by
  have hS : Tryz.prog.underlying 31 = some (.struct (Tryz.prog.fieldsOf 31)) := by kernel_rfl
  have hp : Tryz.prog.stoodInHeld 31 = false := by kernel_rfl
  rw [run_equalIn_agg w (d + 1) 31 _ _ hS hp]
  simp only [Program.fieldsOf, Tryz.underlying31]
  have u1 := Tryz.underlying9
  have u2 := Tryz.underlying22
  clear hS hp
  go_simp
  by_cases h1 : a1.toList = b1.toList <;> by_cases h2 : (a2 : Int) = (b2 : Int) <;> simp [h1, h2]
set_option maxRecDepth 100000 in
theorem eqBr_d (d a1 b1 a2 b2 a3 b3 : Nat) (w : World) : (Op.equalIn (d + 1 + 1) 29 (.agg #[.int .u16 a1, .int .u16 a2, .int .u32 a3]) (.agg #[.int .u16 b1, .int .u16 b2, .int .u32 b3])).run Tryz.prog w = .ok ((((a1 : Int) == (b1 : Int)) && ((a2 : Int) == (b2 : Int))) && ((a3 : Int) == (b3 : Int))) w := by
  have hS : Tryz.prog.underlying 29 = some (.struct (Tryz.prog.fieldsOf 29)) := by kernel_rfl
  have hp : Tryz.prog.stoodInHeld 29 = false := by kernel_rfl
  rw [run_equalIn_agg w (d + 1) 29 _ _ hS hp]
  simp only [Program.fieldsOf, Tryz.underlying29]
  have u1 := Tryz.underlying27
  have u2 := Tryz.underlying22
  clear hS hp
  go_simp
  by_cases h1 : (a1 : Int) = (b1 : Int) <;> by_cases h2 : (a2 : Int) = (b2 : Int) <;> by_cases h3 : (a3 : Int) = (b3 : Int) <;> simp [h1, h2, h3]
theorem sameC_bits (r q : PCm) : sameC r q = (((r.id.toList == q.id.toList) && ((r.idx : Int) == (q.idx : Int))) && ((r.val == q.val) && ((r.br == q.br) && (((((r.tag : Int) == (q.tag : Int)) && ((r.delay : Int) == (q.delay : Int))) && ((r.height : Int) == (q.height : Int))) && (r.dead == q.dead))))) := by
  obtain ⟨a1, a2, a3, a4, a5, a6, a7, a8⟩ := r
  obtain ⟨b1, b2, b3, b4, b5, b6, b7, b8⟩ := q
  rw [Bool.eq_iff_iff, sameC_iff]
  dsimp only
  simp only [Bool.and_eq_true, beq_iff_eq, ByteArray.toList_eq, PCm.mk.injEq]
  constructor
  · rintro ⟨rfl, rfl, rfl, rfl, rfl, rfl, rfl, rfl⟩
    exact ⟨⟨rfl, rfl⟩, rfl, rfl, ⟨⟨rfl, rfl⟩, rfl⟩, rfl⟩
  · rintro ⟨⟨h1, h2⟩, h3, h4, ⟨⟨h5, h6⟩, h7⟩, h8⟩
    exact ⟨by cases a1; cases b1; simp at h1; simp [h1], by omega, h3, h4, by omega, by omega, by omega, h8⟩
set_option maxRecDepth 100000 in
set_option maxHeartbeats 1000000 in
theorem eqIn_cl (r q : PCm) (w : World) : (Op.equalIn 10000 33 (.agg #[.string r.id, .int .u32 r.idx, .int .i64 r.val, .int .i64 r.br, .int .u16 r.tag, .int .u16 r.delay, .int .u32 r.height, .int .i64 r.dead]) (.agg #[.string q.id, .int .u32 q.idx, .int .i64 q.val, .int .i64 q.br, .int .u16 q.tag, .int .u16 q.delay, .int .u32 q.height, .int .i64 q.dead])).run Tryz.prog w = .ok (sameC r q) w := by
  have hS : Tryz.prog.underlying 33 = some (.struct (Tryz.prog.fieldsOf 33)) := by kernel_rfl
  have hp : Tryz.prog.stoodInHeld 33 = false := by kernel_rfl
  have hP := fun w => eqPt_d 9997 r.id q.id r.idx q.idx w
  have hB := fun w => eqBr_d 9997 r.tag q.tag r.delay q.delay r.height q.height w
  rw [sameC_bits]
  obtain ⟨a1, a2, a3, a4, a5, a6, a7, a8⟩ := r
  obtain ⟨b1, b2, b3, b4, b5, b6, b7, b8⟩ := q
  dsimp only at hP hB ⊢
  rw [show (10000 : Nat) = 9999 + 1 from rfl, run_equalIn_agg w 9999 33 _ _ hS hp]
  simp only [Program.fieldsOf, Tryz.underlying33]
  have u3 := Tryz.underlying3
  clear hS hp
  rw [show (9997 + 1 + 1 : Nat) = 9999 from rfl] at hP hB
  go_simp
  by_cases h1 : a1.toList = b1.toList
  rotate_left
  · simp [h1]
  by_cases h2 : (a2 : Int) = (b2 : Int)
  rotate_left
  · simp [h2]
  by_cases h3 : a3 = b3
  rotate_left
  · simp [h3]
  by_cases h4 : a4 = b4
  rotate_left
  · simp [h4]
  by_cases h5 : (a5 : Int) = (b5 : Int)
  rotate_left
  · simp [h5]
  by_cases h6 : (a6 : Int) = (b6 : Int)
  rotate_left
  · simp [h6]
  by_cases h7 : (a7 : Int) = (b7 : Int)
  rotate_left
  · simp [h7]
  by_cases h8 : a8 = b8 <;> simp [h1, h2, h3, h4, h5, h6, h7, h8]
theorem sameR_bits (r q : PRec) : sameR r q = ((((((((r.kind == q.kind) && (r.num == q.num)) && sameTx r.tx q.tx) && (r.index == q.index)) && sameC r.cl q.cl) && (r.budget == q.budget)) && (r.start == q.start)) && (r.fee == q.fee)) := by
  rw [Bool.eq_iff_iff, sameR_iff]
  simp only [Bool.and_eq_true, beq_iff_eq, sameC_iff]
  constructor
  · rintro rfl
    exact ⟨⟨⟨⟨⟨⟨⟨rfl, rfl⟩, same_yes rfl⟩, rfl⟩, rfl⟩, rfl⟩, rfl⟩, rfl⟩
  · rintro ⟨⟨⟨⟨⟨⟨⟨h1, h2⟩, h3⟩, h4⟩, h5⟩, h6⟩, h7⟩, h8⟩
    have h3' : r.tx = q.tx := by
      by_cases e : r.tx = q.tx
      · exact e
      · rw [same_no e] at h3; cases h3
    obtain ⟨r1, r2, r3, r4, r5, r6, r7, r8, r9, r10, r11, r12, r13, r14, r15⟩ := r
    obtain ⟨q1, q2, q3, q4, q5, q6, q7, q8, q9, q10, q11, q12, q13, q14, q15⟩ := q
    simp only [PRec.cl, PCm.mk.injEq] at h5
    obtain ⟨g1, g2, g3, g4, g5, g6, g7, g8⟩ := h5
    dsimp only at h1 h2 h3' h4 h6 h7 h8
    subst h1 h2 h3' h4 h6 h7 h8 g1 g2 g3 g4 g5 g6 g7 g8
    rfl
theorem rec_tx {w : World} {r : PRec} {va vb : Value} (h1 : SlAt rpIn w va r.tx.ins) (h2 : SlAt rpOut w vb r.tx.outs) (h : r.Ok) : TxAt w (.agg #[.int .u32 r.tx.ver, va, vb, .int .u32 r.tx.lock]) r.tx := ⟨va, vb, rfl, h1, h2, h.ver, h.lock⟩
set_option maxRecDepth 100000 in
set_option maxHeartbeats 4000000 in
theorem recequal_any (v1 v2 : Value) (r q : PRec) (w : World) (h1 : RecAt w v1 r) (h2 : RecAt w v2 q) : Calls Tryz.prog 14 #[v1, v2] w (BIs (sameR r q) w) := by
  obtain ⟨va, vb, rfl, hi1, ho1, hk1⟩ := h1
  obtain ⟨vc, vd, rfl, hi2, ho2, hk2⟩ := h2
  have HT1 := Lib.hid (rec_tx hi1 ho1 hk1)
  have HT2 := Lib.hid (rec_tx hi2 ho2 hk2)
  obtain ⟨ia, ic, rfl, -, -⟩ := hi1.shape
  obtain ⟨oa, oc, rfl, -, -⟩ := ho1.shape
  obtain ⟨ja, jc, rfl, -, -⟩ := hi2.shape
  obtain ⟨pa, pc, rfl, -, -⟩ := ho2.shape
  have hsb := sameR_bits r q
  obtain ⟨b1, hb1⟩ : ∃ b, b = (r.kind == q.kind) := ⟨_, rfl⟩
  obtain ⟨b2, hb2⟩ : ∃ b, b = (r.num == q.num) := ⟨_, rfl⟩
  obtain ⟨b3, hb3⟩ : ∃ b, b = sameTx r.tx q.tx := ⟨_, rfl⟩
  obtain ⟨b4, hb4⟩ : ∃ b, b = (r.index == q.index) := ⟨_, rfl⟩
  obtain ⟨b5, hb5⟩ : ∃ b, b = sameC r.cl q.cl := ⟨_, rfl⟩
  obtain ⟨b6, hb6⟩ : ∃ b, b = (r.budget == q.budget) := ⟨_, rfl⟩
  obtain ⟨b7, hb7⟩ : ∃ b, b = (r.start == q.start) := ⟨_, rfl⟩
  obtain ⟨b8, hb8⟩ : ∃ b, b = (r.fee == q.fee) := ⟨_, rfl⟩
  rw [← hb1, ← hb2, ← hb3, ← hb4, ← hb5, ← hb6, ← hb7, ← hb8] at hsb
  rw [hsb]
  have hgc := guardCl
  have heq : ∀ w : World, (Op.equalIn 10000 33 (.agg #[.string r.id, .int .u32 r.idx, .int .i64 r.val, .int .i64 r.br, .int .u16 r.tag, .int .u16 r.delay, .int .u32 r.height, .int .i64 r.dead]) (.agg #[.string q.id, .int .u32 q.idx, .int .i64 q.val, .int .i64 q.br, .int .u16 q.tag, .int .u16 q.delay, .int .u32 q.height, .int .i64 q.dead])).run Tryz.prog w = .ok b5 w := fun w => by rw [hb5]; exact eqIn_cl r.cl q.cl w
  have HS := Lib.hid (fun (w2 : World) (h : Below w.heap.size w w2) => hb3 ▸ equal_any _ _ r.tx q.tx w2 (HT1.out.below h) (HT2.out.below h))
  have c1 := hb1.symm
  have c2 := hb2.symm
  have c4 := hb4.symm
  have c6 := hb6.symm
  have c7 := hb7.symm
  have c8 := hb8.symm
  clear hsb hb1 hb2 hb3 hb4 hb5 hb6 hb7 hb8 hi1 ho1 hk1 hi2 ho2 hk2 HT1 HT2
  obtain ⟨n1, hn1⟩ : ∃ n, n = r.tx.ins.length := ⟨_, rfl⟩
  obtain ⟨n2, hn2⟩ : ∃ n, n = r.tx.outs.length := ⟨_, rfl⟩
  obtain ⟨n3, hn3⟩ : ∃ n, n = q.tx.ins.length := ⟨_, rfl⟩
  obtain ⟨n4, hn4⟩ : ∃ n, n = q.tx.outs.length := ⟨_, rfl⟩
  rw [← hn1, ← hn2, ← hn3, ← hn4] at HS
  rw [← hn1, ← hn2, ← hn3, ← hn4]
  clear hn1 hn2 hn3 hn4
  go_enter Tryz.func14, Tryz.ntmps14
  go_upto_region 1 with fail
  obtain ⟨X, hX⟩ : ∃ q, q = w.heap.size := ⟨_, rfl⟩
  have hnews := new2 w X hX (.cells #[.int .i64 r.kind, .int .i64 r.num, .int .u32 r.tx.ver, .slice ia n1 ic, .slice oa n2 oc, .int .u32 r.tx.lock, .int .i64 r.index, .string r.id, .int .u32 r.idx, .int .i64 r.val, .int .i64 r.br, .int .u16 r.tag, .int .u16 r.delay, .int .u32 r.height, .int .i64 r.dead, .int .i64 r.budget, .int .i64 r.start, .int .i64 r.fee] 35) (.cells #[.int .i64 q.kind, .int .i64 q.num, .int .u32 q.tx.ver, .slice ja n3 jc, .slice pa n4 pc, .int .u32 q.tx.lock, .int .i64 q.index, .string q.id, .int .u32 q.idx, .int .i64 q.val, .int .i64 q.br, .int .u16 q.tag, .int .u16 q.delay, .int .u32 q.height, .int .i64 q.dead, .int .i64 q.budget, .int .i64 q.start, .int .i64 q.fee] 35)
  rw [← hX]
  generalize ((w.alloc (.cells #[.int .i64 r.kind, .int .i64 r.num, .int .u32 r.tx.ver, .slice ia n1 ic, .slice oa n2 oc, .int .u32 r.tx.lock, .int .i64 r.index, .string r.id, .int .u32 r.idx, .int .i64 r.val, .int .i64 r.br, .int .u16 r.tag, .int .u16 r.delay, .int .u32 r.height, .int .i64 r.dead, .int .i64 r.budget, .int .i64 r.start, .int .i64 r.fee] 35)).alloc (.cells #[.int .i64 q.kind, .int .i64 q.num, .int .u32 q.tx.ver, .slice ja n3 jc, .slice pa n4 pc, .int .u32 q.tx.lock, .int .i64 q.index, .string q.id, .int .u32 q.idx, .int .i64 q.val, .int .i64 q.br, .int .u16 q.tag, .int .u16 q.delay, .int .u32 q.height, .int .i64 q.dead, .int .i64 q.budget, .int .i64 q.start, .int .i64 q.fee] 35)) = w0 at *
  obtain ⟨hz0, hz1, hal⟩ := hnews
  have x0 : w0.cell? ⟨X, 0, none⟩ = some (.int .i64 r.kind) := cell_at hz0
  have x1 : w0.cell? ⟨X, 1, none⟩ = some (.int .i64 r.num) := cell_at hz0
  have x2 : w0.cell? ⟨X, 2, none⟩ = some (.int .u32 r.tx.ver) := cell_at hz0
  have x3 : w0.cell? ⟨X, 3, none⟩ = some (.slice ia n1 ic) := cell_at hz0
  have x4 : w0.cell? ⟨X, 4, none⟩ = some (.slice oa n2 oc) := cell_at hz0
  have x5 : w0.cell? ⟨X, 5, none⟩ = some (.int .u32 r.tx.lock) := cell_at hz0
  have x6 : w0.cell? ⟨X, 6, none⟩ = some (.int .i64 r.index) := cell_at hz0
  have x7 : w0.cell? ⟨X, 7, none⟩ = some (.string r.id) := cell_at hz0
  have x8 : w0.cell? ⟨X, 8, none⟩ = some (.int .u32 r.idx) := cell_at hz0
  have x9 : w0.cell? ⟨X, 9, none⟩ = some (.int .i64 r.val) := cell_at hz0
  have x10 : w0.cell? ⟨X, 10, none⟩ = some (.int .i64 r.br) := cell_at hz0
  have x11 : w0.cell? ⟨X, 11, none⟩ = some (.int .u16 r.tag) := cell_at hz0
  have x12 : w0.cell? ⟨X, 12, none⟩ = some (.int .u16 r.delay) := cell_at hz0
  have x13 : w0.cell? ⟨X, 13, none⟩ = some (.int .u32 r.height) := cell_at hz0
  have x14 : w0.cell? ⟨X, 14, none⟩ = some (.int .i64 r.dead) := cell_at hz0
  have x15 : w0.cell? ⟨X, 15, none⟩ = some (.int .i64 r.budget) := cell_at hz0
  have x16 : w0.cell? ⟨X, 16, none⟩ = some (.int .i64 r.start) := cell_at hz0
  have x17 : w0.cell? ⟨X, 17, none⟩ = some (.int .i64 r.fee) := cell_at hz0
  have y0 : w0.cell? ⟨X + 1, 0, none⟩ = some (.int .i64 q.kind) := cell_at hz1
  have y1 : w0.cell? ⟨X + 1, 1, none⟩ = some (.int .i64 q.num) := cell_at hz1
  have y2 : w0.cell? ⟨X + 1, 2, none⟩ = some (.int .u32 q.tx.ver) := cell_at hz1
  have y3 : w0.cell? ⟨X + 1, 3, none⟩ = some (.slice ja n3 jc) := cell_at hz1
  have y4 : w0.cell? ⟨X + 1, 4, none⟩ = some (.slice pa n4 pc) := cell_at hz1
  have y5 : w0.cell? ⟨X + 1, 5, none⟩ = some (.int .u32 q.tx.lock) := cell_at hz1
  have y6 : w0.cell? ⟨X + 1, 6, none⟩ = some (.int .i64 q.index) := cell_at hz1
  have y7 : w0.cell? ⟨X + 1, 7, none⟩ = some (.string q.id) := cell_at hz1
  have y8 : w0.cell? ⟨X + 1, 8, none⟩ = some (.int .u32 q.idx) := cell_at hz1
  have y9 : w0.cell? ⟨X + 1, 9, none⟩ = some (.int .i64 q.val) := cell_at hz1
  have y10 : w0.cell? ⟨X + 1, 10, none⟩ = some (.int .i64 q.br) := cell_at hz1
  have y11 : w0.cell? ⟨X + 1, 11, none⟩ = some (.int .u16 q.tag) := cell_at hz1
  have y12 : w0.cell? ⟨X + 1, 12, none⟩ = some (.int .u16 q.delay) := cell_at hz1
  have y13 : w0.cell? ⟨X + 1, 13, none⟩ = some (.int .u32 q.height) := cell_at hz1
  have y14 : w0.cell? ⟨X + 1, 14, none⟩ = some (.int .i64 q.dead) := cell_at hz1
  have y15 : w0.cell? ⟨X + 1, 15, none⟩ = some (.int .i64 q.budget) := cell_at hz1
  have y16 : w0.cell? ⟨X + 1, 16, none⟩ = some (.int .i64 q.start) := cell_at hz1
  have y17 : w0.cell? ⟨X + 1, 17, none⟩ = some (.int .i64 q.fee) := cell_at hz1
  have HS0 := Lib.hid (HS.out w0 hal)
  have HB0 := Lib.hid hal
  clear hz0 hz1 hal hX HS
  cases b1
  · go_wp2_with fail
    go_ret
    exact ⟨rfl, HB0.out⟩
  cases b2
  · go_wp2_with fail
    go_ret
    exact ⟨rfl, HB0.out⟩
  go_wp2_with fail
  refine HS0.out.mono ?_
  rintro e w1 ⟨rfl, hb⟩
  have HB1 := Lib.hid (HB0.out.trans (hb.mono HB0.out.size))
  replace x0 := below_cells hb _ _ x0
  replace x1 := below_cells hb _ _ x1
  replace x2 := below_cells hb _ _ x2
  replace x3 := below_cells hb _ _ x3
  replace x4 := below_cells hb _ _ x4
  replace x5 := below_cells hb _ _ x5
  replace x6 := below_cells hb _ _ x6
  replace x7 := below_cells hb _ _ x7
  replace x8 := below_cells hb _ _ x8
  replace x9 := below_cells hb _ _ x9
  replace x10 := below_cells hb _ _ x10
  replace x11 := below_cells hb _ _ x11
  replace x12 := below_cells hb _ _ x12
  replace x13 := below_cells hb _ _ x13
  replace x14 := below_cells hb _ _ x14
  replace x15 := below_cells hb _ _ x15
  replace x16 := below_cells hb _ _ x16
  replace x17 := below_cells hb _ _ x17
  replace y0 := below_cells hb _ _ y0
  replace y1 := below_cells hb _ _ y1
  replace y2 := below_cells hb _ _ y2
  replace y3 := below_cells hb _ _ y3
  replace y4 := below_cells hb _ _ y4
  replace y5 := below_cells hb _ _ y5
  replace y6 := below_cells hb _ _ y6
  replace y7 := below_cells hb _ _ y7
  replace y8 := below_cells hb _ _ y8
  replace y9 := below_cells hb _ _ y9
  replace y10 := below_cells hb _ _ y10
  replace y11 := below_cells hb _ _ y11
  replace y12 := below_cells hb _ _ y12
  replace y13 := below_cells hb _ _ y13
  replace y14 := below_cells hb _ _ y14
  replace y15 := below_cells hb _ _ y15
  replace y16 := below_cells hb _ _ y16
  replace y17 := below_cells hb _ _ y17
  clear hb HS0 HB0
  cases b3
  · go_wp2_with fail
    go_ret
    exact ⟨rfl, HB1.out⟩
  cases b4
  · go_wp2_with fail
    go_ret
    exact ⟨rfl, HB1.out⟩
  cases b5
  · go_wp2_with fail
    go_ret
    exact ⟨rfl, HB1.out⟩
  cases b6
  · go_wp2_with fail
    go_ret
    exact ⟨rfl, HB1.out⟩
  cases b7
  · go_wp2_with fail
    go_ret
    exact ⟨rfl, HB1.out⟩
  cases b8
  · go_wp2_with fail
    go_ret
    exact ⟨rfl, HB1.out⟩
  go_wp2_with fail
  go_ret
  exact ⟨rfl, HB1.out⟩
end Go.Proofs.YtaooibocknemkaaGreat
end
