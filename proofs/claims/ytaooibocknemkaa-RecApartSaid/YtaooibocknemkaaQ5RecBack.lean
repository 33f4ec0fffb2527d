/-
  RecBack, part 5: the texts Ec, TxD, Inv, Reg, TxF, New, one after another. Conditions: none beyond those named at each.
-/
import Derived.Test.YtaooibocknemkaaQ1RecBack
import Derived.Test.YtaooibocknemkaaQ4RecBack
import Derived.Test.YtaooibocknemkaaTxQ
section
/-
  Records as plain data: what its kind has of one, whether it may be, its bytes, and how these are read. Conditions: none beyond each theorem's own.
-/
namespace Go.Proofs.Ytaooibocknemkaa
open Go.RowKit
set_option linter.unusedVariables false
set_option linter.unusedSimpArgs false

structure PRec where
  kind : Int
  num : Int
  tx : PTx
  index : Int
  id : ByteArray
  idx : Nat
  val : Int
  br : Int
  tag : Nat
  delay : Nat
  height : Nat
  dead : Int
  budget : Int
  start : Int
  fee : Int
def i64R (n : Int) : Prop := -9223372036854775808 ≤ n ∧ n ≤ 9223372036854775807
structure PRec.Ok (r : PRec) : Prop where
  kind : i64R r.kind
  num : i64R r.num
  ver : r.tx.ver < 4294967296
  lock : r.tx.lock < 4294967296
  index : i64R r.index
  id : r.id.size ≤ 9223372036854775807
  idx : r.idx < 4294967296
  val : i64R r.val
  br : i64R r.br
  tag : r.tag < 65536
  delay : r.delay < 65536
  height : r.height < 4294967296
  dead : i64R r.dead
  budget : i64R r.budget
  start : i64R r.start
  fee : i64R r.fee
def noRec : PRec := ⟨0, 0, noTx, 0, ByteArray.empty, 0, 0, 0, 0, 0, 0, 0, 0, 0, 0⟩
/-- What its kind has of a record. -/
def ownR (r : PRec) : PRec :=
  if r.kind = 1 then { noRec with kind := r.kind, num := r.num, tx := r.tx, index := r.index, br := r.br, tag := r.tag, delay := r.delay, height := r.height, dead := r.dead, budget := r.budget, start := r.start }
  else if r.kind = 2 then { noRec with kind := r.kind, num := r.num, id := r.id, idx := r.idx, val := r.val, br := r.br, tag := r.tag, delay := r.delay, height := r.height, dead := r.dead, budget := r.budget, start := r.start }
  else if r.kind = 3 then { noRec with kind := r.kind, num := r.num, id := r.id, idx := r.idx }
  else if r.kind = 4 then { noRec with kind := r.kind, num := r.num, id := r.id, idx := r.idx, index := r.index, fee := r.fee }
  else { noRec with kind := r.kind, num := r.num }
noncomputable def sameR (a b : PRec) : Bool := @decide (a = b) (Classical.propDecidable _)
theorem sameR_yes {a b : PRec} (h : a = b) : sameR a b = true := @decide_eq_true _ (Classical.propDecidable _) h
theorem sameR_no {a b : PRec} (h : a ≠ b) : sameR a b = false := @decide_eq_false _ (Classical.propDecidable _) h
theorem sameR_iff {a b : PRec} : sameR a b = true ↔ a = b := by
  by_cases h : a = b
  · exact ⟨fun _ => h, fun _ => sameR_yes h⟩
  · rw [sameR_no h]; exact ⟨fun e => absurd e (by decide), fun e => absurd e h⟩
def money (n : Int) : Prop := 0 ≤ n ∧ n ≤ 2100000000000000
structure Ranged (r : PRec) : Prop where
  num : 0 ≤ r.num ∧ r.num ≤ 2147483647
  br : 0 ≤ r.br ∧ r.br ≤ 2
  height : r.height ≤ 1000000
  dead : 0 ≤ r.dead ∧ r.dead ≤ 1000000
  start : 0 ≤ r.start ∧ r.start ≤ 1000000
  budget : money r.budget
  val : money r.val
  fee : money r.fee
  id : 1 < r.kind → r.kind < 5 → r.id.size = 32
  bid : r.kind = 4 → 0 ≤ r.index ∧ r.index ≤ 32
  com : r.kind = 1 → checkOf r.tx = 0 ∧ 0 ≤ r.index ∧ r.index < r.tx.outs.length
def kinded (r : PRec) : Prop := 1 ≤ r.kind ∧ r.kind ≤ 5
open Classical in
noncomputable def checkR (r : PRec) : Int := if ¬ kinded r then 2 else if ¬ ownR r = r then 4 else if ¬ Ranged r then 3 else 0
theorem checkR_bad {r : PRec} (h : ¬ kinded r) : checkR r = 2 := by unfold checkR; rw [if_pos h]
theorem checkR_form {r : PRec} (h : kinded r) (h2 : ¬ ownR r = r) : checkR r = 4 := by unfold checkR; rw [if_neg (fun e => e h), if_pos h2]
theorem checkR_range {r : PRec} (h : kinded r) (h2 : ownR r = r) (h3 : ¬ Ranged r) : checkR r = 3 := by unfold checkR; rw [if_neg (fun e => e h), if_neg (fun e => e h2), if_pos h3]
theorem checkR_ok {r : PRec} (h : kinded r) (h2 : ownR r = r) (h3 : Ranged r) : checkR r = 0 := by unfold checkR; rw [if_neg (fun e => e h), if_neg (fun e => e h2), if_neg (fun e => e h3)]
theorem checkR_zero {r : PRec} (h : checkR r = 0) : kinded r ∧ ownR r = r ∧ Ranged r := by
  by_cases h1 : kinded r
  · by_cases h2 : ownR r = r
    · by_cases h3 : Ranged r
      · exact ⟨h1, h2, h3⟩
      · rw [checkR_range h1 h2 h3] at h; exact absurd h (by decide)
    · rw [checkR_form h1 h2] at h; exact absurd h (by decide)
  · rw [checkR_bad h1] at h; exact absurd h (by decide)

/-! ### a record's bytes -/
def wishL (r : PRec) : List UInt8 := leB r.br.toNat 1 ++ (leB r.tag 2 ++ (leB r.delay 2 ++ (leB r.height 4 ++ (leB r.dead.toNat 4 ++ (leB r.budget.toNat 8 ++ (leB r.start.toNat 4 ++ []))))))
def pointL (r : PRec) (m : List UInt8) : List UInt8 := r.id.data.toList ++ (leB r.idx 4 ++ m)
def txL (t : PTx) : List UInt8 := encL t (witOf t)
def bodyL (r : PRec) : List UInt8 :=
  if r.kind = 1 then vintL (txL r.tx).length ++ (txL r.tx ++ (leB r.index.toNat 2 ++ wishL r))
  else if r.kind = 2 then pointL r (leB r.val.toNat 8 ++ wishL r)
  else if r.kind = 3 then pointL r []
  else if r.kind = 4 then pointL r (leB r.index.toNat 2 ++ (leB r.fee.toNat 8 ++ []))
  else []
def payL (r : PRec) : List UInt8 := leB r.kind.toNat 1 ++ (leB r.num.toNat 4 ++ bodyL r)
def putL (r : PRec) : List UInt8 := leB (payL r).length 4 ++ (leB (crcL (payL r)).toNat 4 ++ payL r)

/-! ### how they are read -/
structure RdS where
  t : List UInt8
  ok : Bool
def takeR (n : Nat) (x : RdS) : RdS × List UInt8 := if x.ok = false ∨ x.t.length < n then (⟨x.t, false⟩, []) else (⟨x.t.drop n, true⟩, x.t.take n)
def numR (k : Nat) (x : RdS) : RdS × Nat := ((takeR k x).1, leN (takeR k x).2)
def numI (k : Nat) (x : RdS) : RdS × Int := ((numR k x).1, IntKind.i64.wrap ((numR k x).2 : Int))
noncomputable def txR (x : RdS) : RdS × PTx :=
  if (vgetL x.t 0).2.2 ≠ 0 ∨ x.t.length < (vgetL x.t 0).1 then (⟨x.t, false⟩, noTx)
  else (⟨(takeR (vgetL x.t 0).1 (takeR (vgetL x.t 0).2.1 x).1).1.t, (takeR (vgetL x.t 0).1 (takeR (vgetL x.t 0).2.1 x).1).1.ok && decide ((decZ (takeR (vgetL x.t 0).1 (takeR (vgetL x.t 0).2.1 x).1).2).2.2 = 0)⟩,
    (decZ (takeR (vgetL x.t 0).1 (takeR (vgetL x.t 0).2.1 x).1).2).1)
theorem takeR_back {a r : List UInt8} {n : Nat} (h : a.length = n) : takeR n ⟨a ++ r, true⟩ = (⟨r, true⟩, a) := by
  unfold takeR
  rw [if_neg (by rintro (e | e); cases e; rw [List.length_append] at e; omega)]
  subst h
  simp
theorem takeR_again {n : Nat} {x : RdS} (h : (takeR n x).1.ok = true) : x.ok = true ∧ x.t = (takeR n x).2 ++ (takeR n x).1.t ∧ (takeR n x).2.length = n := by
  unfold takeR at h ⊢
  split at h
  · cases h
  · rename_i hn
    rw [if_neg hn]
    have h1 : x.ok = true := by cases hx : x.ok with | true => rfl | false => exact absurd (.inl hx) hn
    have h2 : ¬ x.t.length < n := fun e => hn (.inr e)
    refine ⟨h1, (List.take_append_drop n x.t).symm, ?_⟩
    rw [List.length_take]; omega
theorem takeR_fail {n : Nat} {x : RdS} (h : (takeR n x).1.ok = false) : (takeR n x).2 = [] := by
  unfold takeR at h ⊢
  split
  · rfl
  · rename_i hn; rw [if_neg hn] at h; cases h
theorem numR_back {n k : Nat} {r : List UInt8} (h : n < 256 ^ k) : numR k ⟨leB n k ++ r, true⟩ = (⟨r, true⟩, n) := by
  unfold numR
  rw [takeR_back (leB_length n k)]
  dsimp only
  rw [leN_leB' h]
theorem numR_again {k : Nat} {x : RdS} (h : (numR k x).1.ok = true) : x.ok = true ∧ x.t = leB (numR k x).2 k ++ (numR k x).1.t ∧ (numR k x).2 < 256 ^ k := by
  obtain ⟨h1, h2, h3⟩ := takeR_again h
  refine ⟨h1, ?_, ?_⟩
  · show x.t = leB (leN (takeR k x).2) k ++ (takeR k x).1.t
    conv => rhs; rw [show leB (leN (takeR k x).2) k = leB (leN (takeR k x).2) (takeR k x).2.length by rw [h3]]
    rw [leB_leN]
    exact h2
  · have := leN_lt (takeR k x).2
    rw [h3] at this
    exact this
theorem numR_lt (k : Nat) (x : RdS) : (numR k x).2 < 256 ^ k := by
  cases h : (numR k x).1.ok with
  | true => exact (numR_again h).2.2
  | false =>
    show leN (takeR k x).2 < _
    rw [takeR_fail h]
    exact Nat.pow_pos (by decide)
theorem numI_back {n : Int} {k : Nat} {r : List UInt8} (h0 : 0 ≤ n) (h : n.toNat < 256 ^ k) (h2 : n ≤ 9223372036854775807) : numI k ⟨leB n.toNat k ++ r, true⟩ = (⟨r, true⟩, n) := by
  unfold numI
  rw [numR_back h]
  dsimp only
  rw [show ((n.toNat : Nat) : Int) = n by omega, IntKind.wrap_i64]
  congr 1
  omega
theorem numI_again {k : Nat} {x : RdS} (hk : k ≤ 8) (h : (numI k x).1.ok = true) (h0 : 0 ≤ (numI k x).2) : x.ok = true ∧ x.t = leB (numI k x).2.toNat k ++ (numI k x).1.t := by
  obtain ⟨h1, h2, h3⟩ := numR_again (k := k) (x := x) h
  refine ⟨h1, ?_⟩
  have e : (numI k x).2.toNat = (numR k x).2 := by
    have h4 : (numR k x).2 < 256 ^ 8 := Nat.lt_of_lt_of_le h3 (Nat.pow_le_pow_right (by decide) hk)
    have h5 : (256 : Nat) ^ 8 = 18446744073709551616 := by decide
    unfold numI at h0 ⊢
    dsimp only at h0 ⊢
    rw [IntKind.wrap_i64] at h0 ⊢
    omega
  rw [e]
  exact h2
theorem vget_back {n : Nat} {r : List UInt8} (h : n < 18446744073709551616) : vgetL (vintL n ++ r) 0 = (n, (vintL n).length, 0) := by
  obtain ⟨b, p, h1, h2, h3, -⟩ := vintL_first n
  have h3 := h3 h
  obtain ⟨l, hl⟩ : ∃ l, l = b :: p ++ r := ⟨_, rfl⟩
  have hd : l.drop 0 = b :: (p ++ r) := by rw [hl]; rfl
  have hb : byteAt l 0 = b.toNat := byteAt_drop hd
  have hp : pt l (0 + 1) (kOf b.toNat) = p := pt_drop (a := p) (r := r) (by rw [hl]; rfl) h2
  have hv : vnum l 0 = n := by unfold vnum; rw [hb, hp]; exact h3
  have hll : l.length = p.length + 1 + r.length := by rw [hl]; simp; omega
  rw [h1, ← hl]
  unfold vgetL
  rw [if_neg (by omega), hb, if_neg (by omega), hv, if_pos (by rw [h1, List.length_cons]; omega), ← h2, List.length_cons]
  congr 2
  omega
theorem vget_again {l : List UInt8} (h : (vgetL l 0).2.2 = 0) : (∃ r, l = vintL (vgetL l 0).1 ++ r) ∧ (vgetL l 0).2.1 = (vintL (vgetL l 0).1).length ∧ (vgetL l 0).1 < 18446744073709551616 := by
  unfold vgetL at h ⊢
  split at h
  · exact absurd h (by decide)
  · rename_i h3
    split at h
    · exact absurd h (by decide)
    · rename_i h4
      split at h
      · rename_i h5
        rw [if_neg h3, if_neg h4, if_pos h5]
        dsimp only
        obtain ⟨b, hb⟩ := drop_cons (show 0 < l.length by omega)
        have hb2 := byteAt_drop hb
        rw [hb2] at h4 h5 ⊢
        have hsp := pt_split l (0 + 1) (kOf b.toNat)
        have hv : vnum l 0 = if kOf b.toNat = 0 then b.toNat else leN (pt l (0 + 1) (kOf b.toNat)) := by unfold vnum; rw [hb2]
        have hln : (pt l (0 + 1) (kOf b.toNat)).length = kOf b.toNat := pt_len (by omega)
        rw [hv] at h5 ⊢
        have h6 := (vint_first b _ hln).1 h5
        rw [h6]
        refine ⟨⟨l.drop (0 + 1 + kOf b.toNat), ?_⟩, by rw [List.length_cons, hln]; omega, ?_⟩
        · have e : l.drop 0 = b :: (pt l (0 + 1) (kOf b.toNat) ++ (l.drop (0 + 1)).drop (kOf b.toNat)) := by rw [hb, ← hsp]
          exact (show l = l.drop 0 from rfl).trans (e.trans (by rw [List.drop_drop]; rfl))
        · split
          · have := b.toNat_lt; omega
          · have h8 := leN_lt (pt l (0 + 1) (kOf b.toNat))
            rw [hln] at h8
            have h9 : kOf b.toNat ≤ 8 := by
              unfold kOf
              split
              · omega
              · split
                · omega
                · split
                  · omega
                  · omega
            have h10 : (256 : Nat) ^ kOf b.toNat ≤ 256 ^ 8 := Nat.pow_le_pow_right (by decide) h9
            have h11 : (256 : Nat) ^ 8 = 18446744073709551616 := by decide
            omega
      · exact absurd h (by decide)
theorem txR_again {x : RdS} (h : (txR x).1.ok = true) : x.ok = true ∧ x.t = vintL (txL (txR x).2).length ++ (txL (txR x).2 ++ (txR x).1.t) ∧ checkOf (txR x).2 = 0 := by
  unfold txR at h ⊢
  split at h
  · cases h
  · rename_i hn
    rw [if_neg hn]
    dsimp only at h ⊢
    have he : (vgetL x.t 0).2.2 = 0 := Classical.byContradiction fun e => hn (.inl e)
    rw [Bool.and_eq_true, decide_eq_true_eq] at h
    obtain ⟨h1, h2⟩ := h
    obtain ⟨⟨r, hr⟩, hend, hlt⟩ := vget_again he
    obtain ⟨n, hnn⟩ : ∃ n, n = (vgetL x.t 0).1 := ⟨_, rfl⟩
    rw [hend] at h1 h2 ⊢
    rw [← hnn] at hr h1 h2 ⊢
    obtain ⟨k1, k2, k3⟩ := takeR_again h1
    obtain ⟨j1, j2, j3⟩ := takeR_again k1
    obtain ⟨d1, d2, d3⟩ := dec_again h2
    have e1 : (takeR (vintL n).length x).2 = vintL n := by
      have h5 := hr.symm.trans j2
      exact (List.append_inj h5 j3.symm).1.symm
    refine ⟨j1, ?_, d3⟩
    unfold txL
    rw [d1, k3, ← k2, j2, e1]
theorem txR_back {t : PTx} {r : List UInt8} (h : OkP t) (hc : checkOf t = 0) (hl : (txL t).length < 18446744073709551616) : txR ⟨vintL (txL t).length ++ (txL t ++ r), true⟩ = (⟨r, true⟩, t) := by
  unfold txR
  dsimp only
  rw [vget_back hl]
  dsimp only
  rw [if_neg (by
    rintro (e | e)
    · exact e rfl
    · rw [List.length_append, List.length_append] at e; omega), takeR_back rfl]
  dsimp only
  rw [takeR_back rfl]
  dsimp only
  unfold txL
  rw [dec_back h hc]
  rfl
end Go.Proofs.Ytaooibocknemkaa
end

section
/-
  slices.Clone of strings and of Ins. Conditions: no more than a thousand elements.
-/
namespace Go.Proofs.Ytaooibocknemkaa
open Go.RowKit Go.BigFrame
set_option linter.unusedVariables false
set_option linter.unusedSimpArgs false

/-- The cells of a slice's elements, wherever they stand. -/
def RowAt (w : World) (v : Value) (n size : Nat) (cells : List Value) : Prop := ∃ a c, v = .slice a n c ∧ n ≤ c ∧ c ≤ maxLen ∧ cells.length = n * size ∧ (a = none → n = 0) ∧ ∀ ad, a = some ad → ∀ j u, cells[j]? = some u → w.cell? (ad.add j) = some u
theorem RowAt.mono {w w' : World} {v : Value} {n size : Nat} {cells : List Value} (h : RowAt w v n size cells) (hw : ∀ p v, w.cell? p = some v → w'.cell? p = some v) : RowAt w' v n size cells := by
  obtain ⟨a, c, h1, h2, h3, h4, h5, h6⟩ := h
  exact ⟨a, c, h1, h2, h3, h4, h5, fun ad e j u hj => hw _ _ (h6 ad e j u hj)⟩
theorem RowAt.below {w w' : World} {v : Value} {n size : Nat} {cells : List Value} (h : RowAt w v n size cells) (hb : Below w.heap.size w w') : RowAt w' v n size cells := h.mono (below_cells hb)
theorem row_of_strs {w : World} {v : Value} {l : List ByteArray} (h : SlAt rpStr w v l) : RowAt w v l.length 1 (strCells l) ∧ okStrs l := by
  obtain ⟨a, c, rfl, h1, h2⟩ := h.shape
  have hat : ∀ j, j < l.length → ∃ (b o : Nat) (x : ByteArray), a = some ⟨b, o, none⟩ ∧ l[j]? = some x ∧ x.size ≤ maxLen ∧ w.cell? ⟨b, o + j, none⟩ = some (.string x) := by
    intro j hj
    obtain ⟨b, o, x, e1, e2, e3, e4⟩ := h.str hj
    exact ⟨b, o, x, e1, e2, e3, e4⟩
  refine ⟨⟨a, c, rfl, h1, h2, by rw [strCells_len, Nat.mul_one], fun e => ?_, fun ad e j u hj => ?_⟩, fun s hs => ?_⟩
  · rcases Nat.eq_zero_or_pos l.length with h0 | h0
    · exact h0
    · obtain ⟨b, o, x, e1, -⟩ := hat 0 h0
      rw [e] at e1
      cases e1
  · have hjl : j < l.length := by have := (List.getElem?_eq_some_iff.1 hj).1; rw [strCells_len] at this; exact this
    obtain ⟨b, o, x, e1, e2, e3, e4⟩ := hat j hjl
    rw [e] at e1
    obtain rfl := Option.some.inj e1
    rw [Addr.add_lit, e4]
    simpa [strCells, e2] using hj
  · obtain ⟨i, hi⟩ := List.mem_iff_getElem?.1 hs
    obtain ⟨b, o, x, e1, e2, e3, e4⟩ := hat i (List.getElem?_eq_some_iff.1 hi).1
    rw [hi] at e2
    obtain rfl := Option.some.inj e2
    exact e3
theorem strs_oneCell (l : List ByteArray) : ∀ u ∈ strCells l, u.oneCell' = true := by
  intro u hu
  unfold strCells at hu
  obtain ⟨x, -, rfl⟩ := List.mem_map.1 hu
  rfl
/-- Ins with the values of their witnesses, which lie anywhere. -/
structure InsSrc (w : World) (v : Value) (ins : List PIn) (ps : List (PIn × Value)) : Prop where
  is : ps.map (·.1) = ins
  row : RowAt w v ps.length 4 (insCells ps)
  wit : ∀ (i : Nat) (p : PIn × Value), ps[i]? = some p → SlAt rpStr w p.2 p.1.wit
  ok : ∀ (i : Nat) (p : PIn × Value), ps[i]? = some p → OkIn p.1
theorem InsSrc.below {w w' : World} {v : Value} {ins : List PIn} {ps : List (PIn × Value)} (h : InsSrc w v ins ps) (hb : Below w.heap.size w w') : InsSrc w' v ins ps :=
  ⟨h.is, h.row.below hb, fun i p hp => (h.wit i p hp).below hb, h.ok⟩
theorem InsSrc.len {w : World} {v : Value} {ins : List PIn} {ps : List (PIn × Value)} (h : InsSrc w v ins ps) : ps.length = ins.length := by rw [← h.is, List.length_map]
theorem InsSrc.one {w : World} {v : Value} {ins : List PIn} {ps : List (PIn × Value)} (h : InsSrc w v ins ps) : ∀ u ∈ insCells ps, u.oneCell' = true := by
  intro u hu
  unfold insCells at hu
  rw [List.mem_flatMap] at hu
  obtain ⟨p, hp, hx⟩ := hu
  obtain ⟨i, hi⟩ := List.mem_iff_getElem?.1 hp
  obtain ⟨a, c, e, -, -⟩ := (h.wit i p hi).shape
  simp only [inRow, List.mem_cons, List.not_mem_nil, or_false] at hx
  rcases hx with rfl | rfl | rfl | rfl
  · rfl
  · rfl
  · rfl
  · rw [e]; rfl
theorem src_of_ins {w : World} {v : Value} {l : List PIn} (h : SlAt rpIn w v l) : ∃ ps, InsSrc w v l ps := by
  obtain ⟨a, c, rfl, h1, h2⟩ := h.shape
  obtain ⟨ps, hpl, hps⟩ := list_of_each (len := l.length) (Q := fun i (p : PIn × Value) => ∃ b o, a = some ⟨b, o, none⟩ ∧ l[i]? = some p.1 ∧ SlAt rpStr w p.2 p.1.wit ∧ OkIn p.1 ∧
      ∀ j u, (inRow p)[j]? = some u → w.cell? ⟨b, o + i * 4 + j, none⟩ = some u) (fun i hi => by
    obtain ⟨b, o, x, wv, e1, e2, e3, e4, e5, e6, d0, d1, d2, d3⟩ := h.inp hi
    refine ⟨(x, wv), b, o, e1, e2, e6, ⟨e5, e4, e3, (row_of_strs e6).2⟩, fun j u hj => ?_⟩
    match j, hj with
    | 0, hj => obtain rfl := Option.some.inj hj; exact d0
    | 1, hj => obtain rfl := Option.some.inj hj; exact d1
    | 2, hj => obtain rfl := Option.some.inj hj; exact d2
    | 3, hj => obtain rfl := Option.some.inj hj; exact d3)
  have hat : ∀ i, i < ps.length → ∃ p, ps[i]? = some p := fun i hi => ⟨_, List.getElem?_eq_getElem hi⟩
  refine ⟨ps, ?_, ⟨a, c, by rw [hpl], by omega, h2, insCells_len ps, fun e => ?_, fun ad e j u hj => ?_⟩, fun i p hp => ?_, fun i p hp => ?_⟩
  · apply List.ext_getElem?
    intro i
    rw [List.getElem?_map]
    rcases Nat.lt_or_ge i ps.length with hi | hi
    · obtain ⟨p, hp⟩ := hat i hi
      obtain ⟨_, _, _, e, _⟩ := hps i p hp
      rw [hp, e]
      rfl
    · rw [List.getElem?_eq_none hi, List.getElem?_eq_none (by omega)]
      rfl
  · rcases Nat.eq_zero_or_pos ps.length with h0 | h0
    · exact h0
    · obtain ⟨p, hp⟩ := hat 0 h0
      obtain ⟨_, _, e1, _⟩ := hps 0 p hp
      rw [e] at e1
      cases e1
  · have hjl : j < ps.length * 4 := by have := (List.getElem?_eq_some_iff.1 hj).1; rw [insCells_len] at this; exact this
    obtain ⟨p, hp⟩ := hat (j / 4) (by omega)
    obtain ⟨b, o, e1, -, -, -, e5⟩ := hps (j / 4) p hp
    rw [e] at e1
    obtain rfl := Option.some.inj e1
    have e2 := flat_at inRow 4 inRow_len ps (j / 4) p hp (j % 4) (Nat.mod_lt _ (by omega))
    rw [show j / 4 * 4 + j % 4 = j by omega] at e2
    unfold insCells at hj
    rw [e2] at hj
    have := e5 (j % 4) u hj
    rw [Addr.add_lit, ← this]
    congr 2
    omega
  · obtain ⟨_, _, _, _, e, _⟩ := hps i p hp
    exact e
  · obtain ⟨_, _, _, _, _, e, _⟩ := hps i p hp
    exact e

theorem two_boxes (w : World) (A B : Array Value) (t : TypeId) : Below w.heap.size w ((w.alloc (.cells A t)).alloc (.cells B t)) ∧ ((w.alloc (.cells A t)).alloc (.cells B t)).heap[w.heap.size]? = some (.cells A t (0, 0)) ∧
    ((w.alloc (.cells A t)).alloc (.cells B t)).heap[w.heap.size + 1]? = some (.cells B t (0, 0)) := by
  have s1 : (w.alloc (.cells A t)).heap.size = w.heap.size + 1 := by simp
  refine ⟨((Below.refl _ _).alloc (Nat.le_refl _) _).alloc (by rw [s1]; omega) _, ?_, ?_⟩
  · rw [Below.heap_alloc _ _ _ (by rw [s1]; omega)]
    exact heap_alloc_new w _
  · rw [← s1]
    exact heap_alloc_new _ _
theorem below_drewN (w : World) : ∀ n, Below w.heap.size w (w.drewN n) := fun n => by
  induction n with
  | zero => exact Below.refl _ _
  | succ n ih => exact ih.drew
/-- A copy in a row of the call's own. -/
def ClIs (e size n : Nat) (cells : List Value) (w : World) (en : Ending) (w' : World) : Prop := ∃ v, en = .returned v ∧ w'.ownsRow w.heap.size e size v n cells ∧ Below w.heap.size w w'
end Go.Proofs.Ytaooibocknemkaa
end

section
/-
  A region that draws its order, by what holds behind each set of its operations. Conditions: those named in wp_region_inv.
-/
namespace Go.Proofs.Ytaooibocknemkaa
open Go.RowKit Go.BigFrame
set_option linter.unusedVariables false

section
variable {P : Program}
theorem getD_set_iff {l : Array Bool} {i j : Nat} (hi : i < l.size) : (l.setIfInBounds i true).getD j false = true ↔ (j = i ∨ l.getD j false = true) := by
  by_cases h : j = i
  · subst h
    simp [hi]
  · rw [Array.getD_eq_getD_getElem?, Array.getElem?_setIfInBounds_ne (Ne.symm h), ← Array.getD_eq_getD_getElem?]
    simp [h]
theorem getD_flip {l : Array Bool} {i : Nat} (hi : i < l.size) (b c : Bool) : l.getD i b = l.getD i c := by simp [Array.getD, hi]
theorem count_set_true {l : Array Bool} {i : Nat} (hi : i < l.size) (h : l.getD i true = false) : (l.setIfInBounds i true).toList.count false + 1 = l.toList.count false := by
  have hl : l.toList[i]'(by simpa using hi) = false := by
    have := h
    simpa [Array.getD, hi] using this
  have hpos : 0 < l.toList.count false := List.count_pos_iff.2 (by rw [← hl]; exact List.getElem_mem _)
  rw [Array.toList_setIfInBounds, List.count_set (by simpa using hi), hl]
  have e1 : (false == false) = true := rfl
  rw [if_pos e1, if_neg (by simp)]
  omega

/-- **A REGION THAT DRAWS ITS ORDER, BY AN INVARIANT.** I L a w: what holds where just the operations of L have been run. -/
theorem wp_region_inv (I : (Nat → Prop) → Act → World → Prop) {id : Nat} {l : List Oper} {Q : Exit → Act → World → Prop} {a : Act} {w : World} (hm : P.follows .mixedOrders = true) (hb : backB .any l.toArray = true)
    (hg : (l.all fun o => o.guard.isNone) = true) (h0 : I (fun _ => False) a w.drew)
    (hstep : ∀ (L : Nat → Prop) (i : Nat) (o : Oper) (a : Act) (w : World), l[i]? = some o → ¬ L i → (∀ e ∈ o.after, Region.binds .any e = true → L e.on) → I L a w →
      o.wp P a w (fun a' w' => I (fun j => j = i ∨ L j) a' w') (fun _ _ _ => False))
    (hend : ∀ (L : Nat → Prop) (a : Act) (w : World), (∀ j, j < l.length → L j) → I L a w → Q .normal a w) :
    (Code.region id l.toArray true).wp P Q a w := by
  have main : ∀ (fuel : Nat) (listed : Array Bool) (a : Act) (w : World), listed.size = l.toArray.size → listed.toList.count false ≤ fuel → I (fun j => listed.getD j false = true) a w →
      wpAny P .any l.toArray Q fuel listed a w := by
    intro fuel
    induction fuel with
    | zero =>
      intro listed a w hsz hc hI
      have hall : ∀ j, j < listed.size → listed.getD j false = true := fun j hj => by
        cases hx : listed.getD j false with
        | true => rfl
        | false =>
          exfalso
          have h1 := count_set_true hj (by rw [getD_flip hj true false]; exact hx)
          omega
      refine ⟨?_, hend _ a w (fun j hj => hall j (by rw [hsz]; simpa using hj)) hI⟩
      rw [List.eq_nil_iff_forall_not_mem]
      intro j hj
      obtain ⟨h1, x, hx, _⟩ := mem_ready.1 hj
      have hjl : j < listed.size := by rw [hsz]; exact (Array.getElem?_eq_some_iff.1 hx).1
      rw [getD_flip hjl true false, hall j hjl] at h1
      cases h1
    | succ fuel ih =>
      intro listed a w hsz hc hI
      refine ⟨fun he => hend _ a w (fun j hj => ?_) hI, fun i hi => ?_⟩
      · have hjl : j < listed.size := by rw [hsz]; simpa using hj
        cases hx : listed.getD j false with
        | true => rfl
        | false => exact absurd he (some_ready hb listed hsz j (by rw [← hsz]; exact hjl) (by rw [getD_flip hjl true false]; exact hx))
      · obtain ⟨h1, x, hx, h2⟩ := mem_ready.1 hi
        have hil : i < listed.size := by rw [hsz]; exact (Array.getElem?_eq_some_iff.1 hx).1
        have hxl : l[i]? = some x := by simpa using hx
        have hgx : x.guard = none := by
          have := List.all_eq_true.1 hg x (List.mem_of_getElem? hxl)
          simpa using this
        have hs := hstep (fun j => listed.getD j false = true) i x a w hxl (by rw [getD_flip hil false true, h1]; simp) h2 hI
        unfold wpOp
        rw [hx]
        simp only [Region.wanted, hgx, if_true]
        refine .inl (wp_weaken (fun a' w' hK => ?_) (fun _ _ _ h => h.elim) (fun ⟨_, _, h⟩ => h.elim) hs)
        refine ih _ a' w' (by simpa using hsz) (by have := count_set_true hil h1; omega) ?_
        have he : (fun j => (listed.setIfInBounds i true).getD j false = true) = fun j => j = i ∨ listed.getD j false = true := by
          funext j
          exact propext (getD_set_iff hil)
        rw [he]
        exact hK
  refine wp_region_any hm (main _ _ a _ (by simp) (by simp) ?_)
  have he : (fun j => (Array.replicate l.toArray.size false).getD j false = true) = fun _ => False := by
    funext j
    apply propext
    refine ⟨fun h => ?_, fun h => h.elim⟩
    have h1 : (Array.replicate l.toArray.size false).getD j false = false := by simp [Array.getD]
    rw [h1] at h
    cases h
  rw [he]
  exact h0
/-- The same, told from the frame at the region's start. -/
theorem wp_region_inv_at (J : Act → (Nat → Prop) → Act → World → Prop) {id : Nat} {l : List Oper} {Q : Exit → Act → World → Prop} {a : Act} {w : World} (hm : P.follows .mixedOrders = true) (hb : backB .any l.toArray = true)
    (hg : (l.all fun o => o.guard.isNone) = true) (h0 : J a (fun _ => False) a w.drew)
    (hstep : ∀ (L : Nat → Prop) (i : Nat) (o : Oper) (a' : Act) (w' : World), l[i]? = some o → ¬ L i → (∀ e ∈ o.after, Region.binds .any e = true → L e.on) → J a L a' w' →
      o.wp P a' w' (fun a'' w'' => J a (fun j => j = i ∨ L j) a'' w'') (fun _ _ _ => False))
    (hend : ∀ (L : Nat → Prop) (a' : Act) (w' : World), (∀ j, j < l.length → L j) → J a L a' w' → Q .normal a' w') :
    (Code.region id l.toArray true).wp P Q a w := wp_region_inv (J a) hm hb hg h0 hstep hend
end
end Go.Proofs.Ytaooibocknemkaa
end

section
/-
  A region that draws its order: operations that make memory of their own, in any order, and behind them a tail of operations of which each waits for all ahead of it. Conditions: those named in wp_region_made.
-/
namespace Go.Proofs.Ytaooibocknemkaa
open Go.RowKit Go.BigFrame
set_option linter.unusedVariables false

theorem opv_run {P : Program} {o : Oper} {a : Act} {w w' : World} {v : Value} {K : Act → World → Prop} {Q : Exit → Act → World → Prop} (hrun : (execOp a.eval o).run P w = .ok (.value v) w') (hK : K (a.put o.dst v) w') : o.wp P a w K Q := by
  unfold Oper.wp
  rw [hrun]
  exact hK
theorem op_skip {P : Program} {o : Oper} {a : Act} {w w' : World} {K : Act → World → Prop} {Q : Exit → Act → World → Prop} (hrun : (execOp a.eval o).run P w = .ok .skip w') (hK : K (a.put o.dst undef) w') : o.wp P a w K Q := by
  unfold Oper.wp
  rw [hrun]
  exact hK
theorem op_call {P : Program} {o : Oper} {a : Act} {w : World} {f : FuncId} {args : Array Value} {R : Ending → World → Prop} {K : Act → World → Prop} {Q : Exit → Act → World → Prop} (hrun : (execOp a.eval o).run P w = .ok (.enter f args) w)
    (hc : Calls P f args w R) (hK : ∀ e w', R e w' → ∃ v, e = .returned v ∧ K (a.put o.dst v) w') : o.wp P a w K Q := by
  unfold Oper.wp
  rw [hrun]
  refine hc.mono fun e w' hR => ?_
  obtain ⟨v, rfl, hk⟩ := hK e w' hR
  exact hk

/-- The frame behind the operations' results. -/
def putAll (a : Act) : List Oper → List Value → Act
  | o :: l, x :: xs => putAll (a.put o.dst x) l xs
  | _, _ => a
def depsOf (o : Oper) : List Nat := (o.after.toList.filter (Region.binds .any)).map (·.on)
def deps (l : List Oper) (i : Nat) : List Nat := match l[i]? with | some o => depsOf o | none => []
def noneOf (d : Option Tmp) (l : List Oper) : Bool := match d with | none => true | some d => l.all fun o => match o.dst with | none => true | some e => !(d == e)
def dstB : List Oper → Bool
  | [] => true
  | o :: l => noneOf o.dst l && dstB l

theorem put_comm (a : Act) {d e : Option Tmp} (h : ∀ x y, d = some x → e = some y → x ≠ y) (u v : Value) : (a.put d u).put e v = (a.put e v).put d u := by
  cases d with
  | none => rfl
  | some d =>
    cases e with
    | none => rfl
    | some e =>
      have hne := h d e rfl rfl
      simp only [Act.put]
      congr 1
      exact Array.setIfInBounds_comm _ _ hne
theorem put_own (a : Act) (d : Option Tmp) : a.put d (match d with | some d => a.tmps.getD d undef | none => undef) = a := by
  cases d with
  | none => rfl
  | some d =>
    simp only [Act.put]
    have h : a.tmps.setIfInBounds d (a.tmps.getD d undef) = a.tmps := by
      apply Array.ext
      · simp
      · intro i h1 h2
        rw [Array.getElem_setIfInBounds h2]
        split
        · rename_i e
          subst e
          simp [Array.getD, h2]
        · rfl
    rw [h]
theorem putAll_put_none : ∀ (l : List Oper) (xs : List Value) (a : Act) (d : Option Tmp) (v : Value), noneOf d l = true → (putAll a l xs).put d v = putAll (a.put d v) l xs
  | [], xs, a, d, v, h => by simp [putAll]
  | o :: l, [], a, d, v, h => by simp [putAll]
  | o :: l, x :: xs, a, d, v, h => by
    have h1 : noneOf d l = true := by
      cases d with
      | none => rfl
      | some d => simp only [noneOf, List.all_cons, Bool.and_eq_true] at h ⊢; exact h.2
    rw [putAll, putAll, putAll_put_none l xs _ d v h1, put_comm]
    intro p q hp hq e
    subst e
    rw [hq] at h
    simp [noneOf, hp] at h
theorem putAll_put : ∀ (l : List Oper) (xs : List Value) (a : Act) (i : Nat) (o : Oper) (v : Value), dstB l = true → l[i]? = some o → i < xs.length → (putAll a l xs).put o.dst v = putAll a l (xs.set i v)
  | [], xs, a, i, o, v, hd, ho, hi => by simp at ho
  | p :: l, [], a, i, o, v, hd, ho, hi => by simp at hi
  | p :: l, x :: xs, a, 0, o, v, hd, ho, hi => by
    obtain rfl : p = o := by simpa using ho
    simp only [dstB, Bool.and_eq_true] at hd
    rw [putAll, List.set_cons_zero, putAll, putAll_put_none l xs _ _ v hd.1, put_put]
  | p :: l, x :: xs, a, i + 1, o, v, hd, ho, hi => by
    simp only [dstB, Bool.and_eq_true] at hd
    rw [putAll, List.set_cons_succ, putAll, putAll_put l xs _ i o v hd.2 (by simpa using ho) (by simpa using hi)]
def ownVals (a : Act) (l : List Oper) : List Value := l.map fun o => match o.dst with | some d => a.tmps.getD d undef | none => undef
theorem putAll_own : ∀ (l : List Oper) (a : Act) (n : Nat), putAll a l ((ownVals a l).take n) = a
  | [], a, n => by simp [putAll]
  | o :: l, a, 0 => by simp [putAll]
  | o :: l, a, n + 1 => by
    have h := putAll_own l a n
    unfold ownVals at h ⊢
    rw [List.map_cons, List.take_succ_cons, putAll, put_own]
    exact h

/-- What holds of an operation's value, by the values on which it waits, the blocks from lo to hi, and the world; it stays while these blocks do. -/
structure Fact where
  p : Value → List Value → Nat → Nat → World → Prop
  mono : ∀ {v : Value} {d : List Value} {lo hi : Nat} {w w' : World}, (∀ b, b < hi → w'.heap[b]? = w.heap[b]?) → p v d lo hi w → p v d lo hi w'
def Fact.val (f : List Value → Value) : Fact := ⟨fun v d _ _ _ => v = f d, fun _ h => h⟩
def Fact.is (q : Value → List Value → Prop) : Fact := ⟨fun v d _ _ _ => q v d, fun _ h => h⟩
def Fact.box (f : List Value → Obj) : Fact := ⟨fun v d lo hi w => ∃ b, lo ≤ b ∧ b < hi ∧ v = .pointer (some ⟨b, 0, none⟩) ∧ w.heap[b]? = some (f d), fun hk ⟨b, h1, h2, h3, h4⟩ => ⟨b, h1, h2, h3, (hk b h2).trans h4⟩⟩
def Fact.row (n : Nat) (f : List Value → Obj) : Fact := ⟨fun v d lo hi w => ∃ b, lo ≤ b ∧ b < hi ∧ v = .slice (some ⟨b, 0, none⟩) n n ∧ w.heap[b]? = some (f d), fun hk ⟨b, h1, h2, h3, h4⟩ => ⟨b, h1, h2, h3, (hk b h2).trans h4⟩⟩
def Fact.own (base e size n : Nat) (xs : List Value → List Value) : Fact := ⟨fun v d lo hi w => (∀ b, v.ownBlock = some b → lo ≤ b ∧ b < hi) ∧ w.ownsRow base e size v n (xs d), fun hk ⟨h1, h2⟩ => ⟨h1, ownsRow_of_block h2 fun b hb => hk b (h1 b hb).2⟩⟩
def Fact.any : Fact := ⟨fun _ _ _ _ _ => True, fun _ _ => trivial⟩

/-- Where just the operations of L have been run, all of the first n. -/
structure Made (R : Nat → Fact) (l : List Oper) (n : Nat) (w0 : World) (L : Nat → Prop) (xs : List Value) (lo hi : Nat → Nat) (w : World) : Prop where
  len : xs.length = n
  closed : ∀ j, L j → ∀ d, (deps l j).contains d = true → L d
  lt : ∀ j, L j → j < n
  bel : Below w0.heap.size w0 w
  rel : ∀ j, L j → (R j).p (xs.getD j undef) ((deps l j).map fun d => xs.getD d undef) (lo j) (hi j) w
  lohi : ∀ j, L j → w0.heap.size ≤ lo j ∧ lo j ≤ hi j ∧ hi j ≤ w.heap.size
  apart : ∀ i j, L i → L j → i ≠ j → hi i ≤ lo j ∨ hi j ≤ lo i

section
variable {P : Program} {R : Nat → Fact} {l : List Oper} {n : Nat} {w0 w : World} {L : Nat → Prop} {xs : List Value} {lo hi : Nat → Nat}

theorem deps_binds {i d : Nat} {o : Oper} (ho : l[i]? = some o) (h : (deps l i).contains d = true) : ∃ e ∈ o.after, Region.binds .any e = true ∧ e.on = d := by
  unfold deps at h
  rw [ho] at h
  simp only [depsOf, List.contains_iff_mem, List.mem_map, List.mem_filter] at h
  obtain ⟨e, ⟨h1, h2⟩, h3⟩ := h
  exact ⟨e, by simpa using h1, h2, h3⟩

theorem Made.step (h : Made R l n w0 L xs lo hi w) {i : Nat} (hin : i < n) (hni : ¬ L i) (hpre : ∀ d, (deps l i).contains d = true → L d) {v : Value} {w' : World}
    (hbel : Below w.heap.size w w') (hr : (R i).p v ((deps l i).map fun d => xs.getD d undef) w.heap.size w'.heap.size w') :
    Made R l n w0 (fun j => j = i ∨ L j) (xs.set i v) (fun j => if j = i then w.heap.size else lo j) (fun j => if j = i then w'.heap.size else hi j) w' := by
  have hget : ∀ j, L j → (xs.set i v).getD j undef = xs.getD j undef := by
    intro j hj
    have hne : i ≠ j := fun e => hni (e ▸ hj)
    simp [List.getD, List.getElem?_set_ne hne]
  have hself : (xs.set i v).getD i undef = v := by
    have : i < xs.length := by rw [h.len]; exact hin
    simp [List.getD, this]
  have hmap : ∀ j, (j = i ∨ L j) → ((deps l j).map fun d => (xs.set i v).getD d undef) = (deps l j).map fun d => xs.getD d undef := by
    intro j hj
    refine List.map_congr_left fun d hd => hget d ?_
    have hc : (deps l j).contains d = true := by simpa using hd
    rcases hj with rfl | hj
    · exact hpre d hc
    · exact h.closed j hj d hc
  have hsz := hbel.size
  refine ⟨by rw [List.length_set]; exact h.len, ?_, ?_, h.bel.trans (hbel.mono h.bel.size), ?_, ?_, ?_⟩
  · rintro j (rfl | hj) d hd
    · exact .inr (hpre d hd)
    · exact .inr (h.closed j hj d hd)
  · rintro j (rfl | hj)
    · exact hin
    · exact h.lt j hj
  · rintro j (rfl | hj)
    · rw [hself, hmap j (.inl rfl), if_pos rfl, if_pos rfl]
      exact hr
    · have hne : j ≠ i := fun e => hni (e ▸ hj)
      rw [hget j hj, hmap j (.inr hj), if_neg hne, if_neg hne]
      have h3 := h.lohi j hj
      exact (R j).mono (fun b h2 => hbel.block b (by omega)) (h.rel j hj)
  · rintro j (rfl | hj)
    · rw [if_pos rfl, if_pos rfl]
      exact ⟨h.bel.size, hsz, Nat.le_refl _⟩
    · have hne : j ≠ i := fun e => hni (e ▸ hj)
      rw [if_neg hne, if_neg hne]
      have := h.lohi j hj
      omega
  · rintro p q (rfl | hp) (rfl | hq) hpq
    · exact absurd rfl hpq
    · have hne : q ≠ p := fun e => hpq e.symm
      rw [if_pos rfl, if_pos rfl, if_neg hne, if_neg hne]
      exact .inr (h.lohi q hq).2.2
    · rw [if_pos rfl, if_pos rfl, if_neg hpq, if_neg hpq]
      exact .inl (h.lohi p hp).2.2
    · have h1 : p ≠ i := fun e => hni (e ▸ hp)
      have h2 : q ≠ i := fun e => hni (e ▸ hq)
      rw [if_neg h1, if_neg h1, if_neg h2, if_neg h2]
      exact h.apart p q hp hq hpq

theorem Made.start {a0 : Act} (hl : n ≤ l.length) (w : World) : Made R l n w (fun _ => False) ((ownVals a0 l).take n) (fun _ => 0) (fun _ => 0) w.drew :=
  ⟨by simp [ownVals]; omega, fun _ h => h.elim, fun _ h => h.elim, ⟨rfl, rfl, rfl, Nat.le_refl _, fun _ _ => rfl⟩, fun _ h => h.elim, fun _ h => h.elim, fun _ _ h => h.elim⟩

/-- What is asked of one operation. -/
def StepOk (P : Program) (R : Nat → Fact) (a0 : Act) (l : List Oper) (n : Nat) (w0 : World) (i : Nat) (o : Oper) : Prop :=
  ∀ (L : Nat → Prop) (xs : List Value) (lo hi : Nat → Nat) (w : World), Made R l n w0 L xs lo hi w → ¬ L i → (∀ d, (deps l i).contains d = true → L d) →
    o.wp P (putAll a0 l xs) w (fun a' w' => ∃ v, a' = (putAll a0 l xs).put o.dst v ∧ Below w.heap.size w w' ∧ (R i).p v ((deps l i).map fun d => xs.getD d undef) w.heap.size w'.heap.size w') (fun _ _ _ => False)

/-- Do all operations stand ahead of one? -/
def aheadB (l : List Oper) (n : Nat) : Bool :=
  let rec go : Nat → List Bool → List Bool
    | 0, s => s
    | f + 1, s => go f ((List.range n).map fun j => s.getD j false || (List.range n).any fun i => s.getD i false && (deps l i).contains j)
  (go n ((List.range n).map fun j => (deps l n).contains j)).all id
theorem ahead_go {n : Nat} (hc : ∀ j, L j → ∀ d, (deps l j).contains d = true → L d) : ∀ (f : Nat) (s : List Bool), (∀ j, s.getD j false = true → L j) → ∀ j, (aheadB.go l n f s).getD j false = true → L j
  | 0, s, h, j, hj => h j hj
  | f + 1, s, h, j, hj => by
    rw [aheadB.go] at hj
    refine ahead_go hc f _ (fun q hq => ?_) j hj
    rw [List.getD_eq_getElem?_getD, List.getElem?_map] at hq
    cases hr : (List.range n)[q]? with
    | none => rw [hr] at hq; simp at hq
    | some r =>
      rw [hr] at hq
      obtain rfl : r = q := by
        have := List.getElem?_eq_some_iff.1 hr
        obtain ⟨h1, h2⟩ := this
        rw [List.getElem_range] at h2
        exact h2.symm
      simp only [Option.map_some, Option.getD_some, Bool.or_eq_true, List.any_eq_true, Bool.and_eq_true] at hq
      rcases hq with hq | ⟨i, -, h1, h2⟩
      · exact h r hq
      · exact hc i (h i h1) r h2
theorem ahead_all (h : aheadB l n = true) (hc : ∀ j, L j → ∀ d, (deps l j).contains d = true → L d) (hd : ∀ d, (deps l n).contains d = true → L d) : ∀ j, j < n → L j := by
  have hlen : ∀ (f : Nat) (s : List Bool), s.length = n → (aheadB.go l n f s).length = n := by
    intro f
    induction f with
    | zero => intro s hs; exact hs
    | succ f ih => intro s hs; rw [aheadB.go]; exact ih _ (by simp)
  intro j hj
  refine ahead_go (n := n) hc n ((List.range n).map fun j => (deps l n).contains j) (fun q hq => ?_) j ?_
  · rw [List.getD_eq_getElem?_getD, List.getElem?_map] at hq
    cases hr : (List.range n)[q]? with
    | none => rw [hr] at hq; simp at hq
    | some r =>
      rw [hr] at hq
      obtain ⟨h1, h2⟩ := List.getElem?_eq_some_iff.1 hr
      rw [List.getElem_range] at h2
      subst h2
      exact hd _ (by simpa using hq)
  · unfold aheadB at h
    have h1 := List.all_eq_true.1 h
    have h2 : j < (aheadB.go l n n ((List.range n).map fun j => (deps l n).contains j)).length := by rw [hlen _ _ (by simp)]; exact hj
    rw [List.getD_eq_getElem?_getD, List.getElem?_eq_getElem h2]
    simpa using h1 _ (List.getElem_mem h2)


theorem wpOp_mono {ops : Array Oper} {Q : Exit → Act → World → Prop} {i : Nat} {K K' : Act → World → Prop} {a : Act} (h : wpOp P ops Q i K a w) (hk : ∀ a' w', K a' w' → K' a' w') : wpOp P ops Q i K' a w := by
  unfold wpOp at h ⊢
  cases ho : ops[i]? with
  | none => rw [ho] at h; exact hk _ _ h
  | some o =>
    rw [ho] at h
    dsimp only at h ⊢
    split
    · rename_i hw
      rw [if_pos hw] at h
      rcases h with h | h
      · exact .inl (wp_weaken hk (fun _ _ _ h => h) (fun h => h) h)
      · exact .inr h
    · rename_i hw
      rw [if_neg hw] at h
      exact hk _ _ h

/-- A region by what holds behind each set of its operations; each operation as the region itself asks it. -/
theorem wp_region_inv2 (I : (Nat → Prop) → Act → World → Prop) {id : Nat} {Q : Exit → Act → World → Prop} {a : Act} (hm : P.follows .mixedOrders = true) (hb : backB .any l.toArray = true)
    (h0 : I (fun _ => False) a w.drew)
    (hstep : ∀ (L : Nat → Prop) (i : Nat) (a : Act) (w : World), i < l.length → ¬ L i → (∀ d, (deps l i).contains d = true → L d) → I L a w → wpOp P l.toArray Q i (fun a' w' => I (fun j => j = i ∨ L j) a' w') a w)
    (hend : ∀ (L : Nat → Prop) (a : Act) (w : World), (∀ j, j < l.length → L j) → I L a w → Q .normal a w) :
    (Code.region id l.toArray true).wp P Q a w := by
  have main : ∀ (fuel : Nat) (listed : Array Bool) (a : Act) (w : World), listed.size = l.toArray.size → listed.toList.count false ≤ fuel → I (fun j => listed.getD j false = true) a w →
      wpAny P .any l.toArray Q fuel listed a w := by
    intro fuel
    induction fuel with
    | zero =>
      intro listed a w hsz hc hI
      have hall : ∀ j, j < listed.size → listed.getD j false = true := fun j hj => by
        cases hx : listed.getD j false with
        | true => rfl
        | false =>
          exfalso
          have h1 := count_set_true hj (by rw [getD_flip hj true false]; exact hx)
          omega
      refine ⟨?_, hend _ a w (fun j hj => hall j (by rw [hsz]; simpa using hj)) hI⟩
      rw [List.eq_nil_iff_forall_not_mem]
      intro j hj
      obtain ⟨h1, x, hx, _⟩ := mem_ready.1 hj
      have hjl : j < listed.size := by rw [hsz]; exact (Array.getElem?_eq_some_iff.1 hx).1
      rw [getD_flip hjl true false, hall j hjl] at h1
      cases h1
    | succ fuel ih =>
      intro listed a w hsz hc hI
      refine ⟨fun he => hend _ a w (fun j hj => ?_) hI, fun i hi => ?_⟩
      · have hjl : j < listed.size := by rw [hsz]; simpa using hj
        cases hx : listed.getD j false with
        | true => rfl
        | false => exact absurd he (some_ready hb listed hsz j (by rw [← hsz]; exact hjl) (by rw [getD_flip hjl true false]; exact hx))
      · obtain ⟨h1, x, hx, h2⟩ := mem_ready.1 hi
        have hil : i < listed.size := by rw [hsz]; exact (Array.getElem?_eq_some_iff.1 hx).1
        have hxl : l[i]? = some x := by simpa using hx
        have hs := hstep (fun j => listed.getD j false = true) i a w (by rw [hsz] at hil; simpa using hil) (by rw [getD_flip hil false true, h1]; simp) (fun d hd => by
          obtain ⟨e, e1, e2, rfl⟩ := deps_binds hxl hd
          exact h2 e e1 e2) hI
        refine wpOp_mono hs fun a' w' hK => ?_
        refine ih _ a' w' (by simpa using hsz) (by have := count_set_true hil h1; omega) ?_
        have he : (fun j => (listed.setIfInBounds i true).getD j false = true) = fun j => j = i ∨ listed.getD j false = true := by
          funext j
          exact propext (getD_set_iff hil)
        rw [he]
        exact hK
  refine wp_region_any hm (main _ _ a _ (by simp) (by simp) ?_)
  have he : (fun j => (Array.replicate l.toArray.size false).getD j false = true) = fun _ => False := by
    funext j
    apply propext
    refine ⟨fun h => ?_, fun h => h.elim⟩
    have h1 : (Array.replicate l.toArray.size false).getD j false = false := by simp [Array.getD]
    rw [h1] at h
    cases h
  rw [he]
  exact h0

def tailB (l : List Oper) (n : Nat) : Bool := (List.range (l.length - n)).all fun t => aheadB l (n + t)

/-- **THE FIRST n OPERATIONS MAKE MEMORY OF THEIR OWN, IN ANY ORDER; each behind them waits for all ahead of it.** The goal that is left is the tail, as a plain region has it. -/
theorem wp_region_made (R : Nat → Fact) (n : Nat) {id : Nat} {Q : Exit → Act → World → Prop} {a0 : Act} (hm : P.follows .mixedOrders = true) (hb : backB .any l.toArray = true)
    (hg : ((l.take n).all fun o => o.guard.isNone) = true) (hd : dstB l = true) (hn : n ≤ l.length) (ht : tailB l n = true)
    (hstep : ∀ i o, i < n → l[i]? = some o → StepOk P R a0 l n w0 i o)
    (hend : ∀ (xs : List Value) (lo hi : Nat → Nat) (w : World), Made R l n w0 (fun j => j < n) xs lo hi w → wpList P l.toArray Q (l.drop n) (putAll a0 l xs) w) :
    (Code.region id l.toArray true).wp P Q a0 w0 := by
  refine wp_region_inv2 (fun L a w => (∃ xs lo hi, a = putAll a0 l xs ∧ Made R l n w0 L xs lo hi w ∧ ¬ (∀ j, j < n → L j)) ∨ (∃ t, n ≤ t ∧ (L = fun j => j < t) ∧ wpList P l.toArray Q (l.drop t) a w)) hm hb ?_ ?_ ?_
  · have h0 : Made R l n w0 (fun _ => False) ((ownVals a0 l).take n) (fun _ => 0) (fun _ => 0) w0.drew := Made.start hn w0
    by_cases hz : n = 0
    · subst hz
      refine .inr ⟨0, Nat.le_refl _, by funext j; simp, ?_⟩
      have he : (fun _ => False) = fun j : Nat => j < 0 := by funext j; simp
      have := hend _ _ _ _ (he ▸ h0)
      rw [putAll_own] at this
      exact this
    · exact .inl ⟨_, _, _, (putAll_own l a0 n).symm, h0, fun h => h 0 (by omega)⟩
  · rintro L i a w hil hni hpre hcase
    obtain ⟨o, ho⟩ : ∃ o, l[i]? = some o := ⟨_, List.getElem?_eq_getElem hil⟩
    have hoa : l.toArray[i]? = some o := by simpa using ho
    have hahead : n ≤ i → (∀ j, L j → ∀ d, (deps l j).contains d = true → L d) → ∀ j, j < i → L j := by
      intro hni' hcl
      have h1 := List.all_eq_true.1 ht (i - n) (List.mem_range.2 (by omega))
      rw [show n + (i - n) = i by omega] at h1
      exact ahead_all h1 hcl hpre
    rcases hcase with ⟨xs, lo, hi, rfl, hmd, hno⟩ | ⟨t, hnt, rfl, hwp⟩
    · by_cases hin : i < n
      · have hgo : o.guard = none := by
          have h1 : o ∈ l.take n := by
            rw [List.mem_iff_getElem?]
            exact ⟨i, by rw [List.getElem?_take_of_lt hin]; exact ho⟩
          have := List.all_eq_true.1 hg o h1
          simpa using this
        unfold wpOp
        rw [hoa]
        simp only [Region.wanted, hgo, if_true]
        refine .inl (wp_weaken ?_ (fun _ _ _ h => h.elim) (fun ⟨_, _, h⟩ => h.elim) (hstep i o hin ho L xs lo hi w hmd hni hpre))
        rintro a' w' ⟨v, rfl, hbel, hr⟩
        have hmd' := hmd.step hin hni hpre hbel hr
        rw [putAll_put l xs a0 i o v hd ho (by rw [hmd.len]; exact hin)]
        by_cases hall : ∀ j, j < n → (j = i ∨ L j)
        · refine .inr ⟨n, Nat.le_refl _, ?_, ?_⟩
          · funext j
            exact propext ⟨hmd'.lt j, hall j⟩
          · have he : (fun j => j = i ∨ L j) = fun j => j < n := by
              funext j
              exact propext ⟨hmd'.lt j, hall j⟩
            rw [he] at hmd'
            exact hend _ _ _ _ hmd'
        · exact .inl ⟨_, _, _, rfl, hmd', hall⟩
      · exact absurd (fun j hj => hahead (by omega) hmd.closed j (by omega)) hno
    · have hti : i = t := by
        have h1 : t ≤ i := Nat.le_of_not_lt hni
        rcases Nat.lt_or_ge t i with h2 | h2
        · have h3 := hahead (by omega) (fun j hj d hdj => by
            obtain ⟨q, hq⟩ : ∃ q, l[j]? = some q := ⟨_, List.getElem?_eq_getElem (by omega)⟩
            obtain ⟨e, e1, e2, rfl⟩ := deps_binds hq hdj
            have := back_spec hb (by simpa using hq) e e1 e2
            omega) t h2
          omega
        · omega
      subst hti
      have hdr : l.drop i = o :: l.drop (i + 1) := by
        rw [List.drop_eq_getElem_cons hil]
        congr 1
        obtain ⟨_, h2⟩ := List.getElem?_eq_some_iff.1 ho
        exact h2
      rw [hdr] at hwp
      have hset : (fun j => j = i ∨ j < i) = fun j => j < i + 1 := by
        funext j
        apply propext
        omega
      unfold wpOp
      rw [hoa]
      dsimp only
      unfold wpList at hwp
      split
      · rename_i hw
        rw [if_pos hw] at hwp
        rcases hwp with hwp | hwp
        · refine .inl (wp_weaken (fun a' w' hK => ?_) (fun _ _ _ h => h) (fun h => h) hwp)
          exact .inr ⟨i + 1, by omega, hset, hK⟩
        · exact .inr hwp
      · rename_i hw
        rw [if_neg hw] at hwp
        exact .inr ⟨i + 1, by omega, hset, hwp⟩
  · rintro L a w hall hcase
    rcases hcase with ⟨xs, lo, hi, rfl, hmd, hno⟩ | ⟨t, hnt, rfl, hwp⟩
    · exact absurd (fun j hj => hall j (by omega)) hno
    · have h1 : l.drop t = [] := by
        rw [List.drop_eq_nil_iff]
        rcases Nat.lt_or_ge t l.length with h2 | h2
        · have := hall t h2
          omega
        · exact h2
      rw [h1] at hwp
      exact hwp

/-- One operation whose run is known, as a step. -/
theorem step_run {o : Oper} {a : Act} {w w' : World} {i : Nat} (v : Value) (hrun : (execOp a.eval o).run P w = .ok (.value v) w') (hbel : Below w.heap.size w w')
    (hr : (R i).p v ((deps l i).map fun d => xs.getD d undef) w.heap.size w'.heap.size w') : o.wp P a w (fun a' w' => ∃ v, a' = a.put o.dst v ∧ Below w.heap.size w w' ∧ (R i).p v ((deps l i).map fun d => xs.getD d undef) w.heap.size w'.heap.size w') (fun _ _ _ => False) :=
  opv_run hrun ⟨v, rfl, hbel, hr⟩
/-- One that changes nothing. -/
theorem step_pure {o : Oper} {a : Act} {w : World} {i : Nat} (v : Value) (hrun : (execOp a.eval o).run P w = .ok (.value v) w)
    (hr : (R i).p v ((deps l i).map fun d => xs.getD d undef) w.heap.size w.heap.size w) : o.wp P a w (fun a' w' => ∃ v, a' = a.put o.dst v ∧ Below w.heap.size w w' ∧ (R i).p v ((deps l i).map fun d => xs.getD d undef) w.heap.size w'.heap.size w') (fun _ _ _ => False) :=
  step_run v hrun (Below.refl _ _) hr
/-- One that makes a block. -/
theorem step_new {o : Oper} {a : Act} {w : World} {i : Nat} (v : Value) (x : Obj) (hrun : (execOp a.eval o).run P w = .ok (.value v) (w.alloc x))
    (hr : (R i).p v ((deps l i).map fun d => xs.getD d undef) w.heap.size (w.alloc x).heap.size (w.alloc x)) : o.wp P a w (fun a' w' => ∃ v, a' = a.put o.dst v ∧ Below w.heap.size w w' ∧ (R i).p v ((deps l i).map fun d => xs.getD d undef) w.heap.size w'.heap.size w') (fun _ _ _ => False) :=
  step_run v hrun ((Below.refl _ _).alloc (Nat.le_refl _) _) hr
/-- One call whose contract is known, as a step. -/
theorem step_call {o : Oper} {a : Act} {w : World} {i : Nat} {f : FuncId} {args : Array Value} {E : Ending → World → Prop} (hc : Calls P f args w E) (hrun : (execOp a.eval o).run P w = .ok (.enter f args) w)
    (hK : ∀ e w', E e w' → ∃ v, e = .returned v ∧ Below w.heap.size w w' ∧ (R i).p v ((deps l i).map fun d => xs.getD d undef) w.heap.size w'.heap.size w') : o.wp P a w (fun a' w' => ∃ v, a' = a.put o.dst v ∧ Below w.heap.size w w' ∧ (R i).p v ((deps l i).map fun d => xs.getD d undef) w.heap.size w'.heap.size w') (fun _ _ _ => False) :=
  op_call hrun hc fun e w' hE => let ⟨v, he, hb, hp⟩ := hK e w' hE; ⟨v, he, v, rfl, hb, hp⟩
end
/-- Cells and contracts at all worlds behind one. -/
theorem kin_cell {C : World → Prop} {w : World} (hC : C = fun w' => Below w.heap.size w w') {b o : Nat} {v : Value} (h : w.cell? ⟨b, o, none⟩ = some v) : ∀ y : Kin C, y.w.cell? ⟨b, o, none⟩ = some v := by
  subst hC
  exact fun y => below_cells y.has _ _ h
theorem kin_call {P : Program} {C : World → Prop} {w : World} (hC : C = fun w' => Below w.heap.size w w') {f : FuncId} {args : Array Value} {v : Value}
    (h : ∀ y, Below w.heap.size w y → Calls P f args y fun e w' => e = .returned v ∧ Below y.heap.size y w') : ∀ y : Kin C, Calls P f args y.w fun e w' => e = .returned v ∧ C w' := by
  subst hC
  exact fun y => (h y.w y.has).mono fun e w' ⟨he, hb⟩ => ⟨he, y.has.trans (hb.mono y.has.size)⟩
/-- Runs of single operations. -/
theorem ex_convert {P : Program} {o : Oper} {a : Act} {w w' : World} {v vx : Value} (x : Operand) (f t : TypeId) (ho : o.op = .convert f t x) (hx : a.eval x = vx) (hrun : (convert f t vx).run P w = .ok v w') : (execOp a.eval o).run P w = .ok (.value v) w' := by
  simp [execOp, ho, hx, hrun, Result.andThen]
theorem ex_make {P : Program} {o : Oper} {a : Act} {w w' : World} {v vx : Value} (x : Operand) (t : TypeId) (ho : o.op = .makeSlice t x x) (hx : a.eval x = vx) (hrun : (Instr.makeSlice t vx vx).run P w = .ok v w') : (execOp a.eval o).run P w = .ok (.value v) w' := by
  simp [execOp, ho, hx, hrun, Result.andThen]
end Go.Proofs.Ytaooibocknemkaa
end

section
/-
  slices.Equal of strings and of Outs, sameIn, slices.EqualFunc of Ins, tx.Equal. Conditions: none.
-/
namespace Go.Proofs.Ytaooibocknemkaa
open Go.RowKit Go.BigFrame
set_option linter.unusedVariables false
set_option linter.unusedSimpArgs false

noncomputable def eqB {α : Type} (a b : α) : Bool := @decide (a = b) (Classical.propDecidable _)
theorem eqB_yes {α : Type} {a b : α} (h : a = b) : eqB a b = true := @decide_eq_true _ (Classical.propDecidable _) h
theorem eqB_no {α : Type} {a b : α} (h : a ≠ b) : eqB a b = false := @decide_eq_false _ (Classical.propDecidable _) h
theorem eqB_iff {α : Type} {a b : α} : eqB a b = true ↔ a = b := ⟨fun h => @of_decide_eq_true _ (Classical.propDecidable _) h, eqB_yes⟩
theorem eqB_tx (t u : PTx) : eqB t u = sameTx t u := rfl
theorem strEq_any (v1 v2 : Value) (l m : List ByteArray) (w : World) (h1 : SlAt rpStr w v1 l) (h2 : SlAt rpStr w v2 m) : Calls Try.prog 50 #[v1, v2] w (BIs (eqB l m) w) := by
  obtain ⟨a, c, rfl, hl1, hl2⟩ := h1.shape
  obtain ⟨e, g, rfl, hm1, hm2⟩ := h2.shape
  rw [maxLen_eq] at hl2 hm2
  by_cases hlm : l.length = m.length
  rotate_left
  · refine (Try.slices_Equal_string_lens a e l.length c m.length g w hlm).mono ?_
    rintro en w' ⟨rfl, rfl⟩
    exact ⟨ret_bool (eqB_no (fun h => hlm (by rw [h]))).symm, Below.refl _ _⟩
  rcases Nat.eq_zero_or_pos l.length with h0 | h0
  · have e1 : l = [] := List.eq_nil_of_length_eq_zero h0
    have e2 : m = [] := List.eq_nil_of_length_eq_zero (by omega)
    subst e1
    subst e2
    refine (Try.slices_Equal_string_empty a e c 0 g w (by omega)).mono ?_
    rintro en w' ⟨rfl, rfl⟩
    exact ⟨ret_bool (by rw [eqB_yes rfl]; rfl), Below.refl _ _⟩
  · obtain ⟨⟨a', c', ea, -, -, -, -, ha⟩, -⟩ := row_of_strs h1
    obtain ⟨⟨e', g', ee, -, -, -, -, he⟩, -⟩ := row_of_strs h2
    obtain ⟨b1, o1, x1, rfl, -, -, -⟩ := h1.str h0
    obtain ⟨b2, o2, x2, rfl, -, -, -⟩ := h2.str (i := 0) (by omega)
    obtain ⟨rfl, rfl⟩ : a' = some ⟨b1, o1, none⟩ ∧ c' = c := by cases ea; exact ⟨rfl, rfl⟩
    obtain ⟨rfl, rfl⟩ : e' = some ⟨b2, o2, none⟩ ∧ g' = g := by cases ee; exact ⟨rfl, rfl⟩
    have get : ∀ (l : List ByteArray) (j : Nat), j < l.length → (strCells l)[j]? = some (.string (l.getD j ByteArray.empty)) := by
      intro l j hj
      simp [strCells, List.getD, List.getElem?_eq_getElem hj]
    refine (Try.slices_Equal_string b1 o1 l.length c' b2 o2 m.length g' l m w (Nat.le_refl _) (Nat.le_refl _) (by omega) (by omega) (fun j hj => ?_) (fun j hj => ?_)).mono ?_
    · have := ha _ rfl j _ (get l j hj)
      rwa [Addr.add_lit] at this
    · have := he _ rfl j _ (get m j hj)
      rwa [Addr.add_lit] at this
    · rintro en w' ⟨rfl, q, rfl⟩
      refine ⟨ret_bool ?_, below_drewN _ _⟩
      rw [List.take_length, List.take_length]
      by_cases h : l = m
      · rw [eqB_yes h, decide_eq_true h]
      · rw [eqB_no h, decide_eq_false h]

def outV (x : POut) : Value := .agg #[.int .i64 x.val, .string x.script]
theorem guardOut : Try.prog.eqGuardType Try.prog.depth 73 = false := by kernel_rfl
theorem eqIn_out (a b : POut) (w : World) : (Op.equalIn 10000 73 (outV a) (outV b)).run Try.prog w = .ok (eqB a b) w := by
  have hS : Try.prog.underlying 73 = some (.struct (Try.prog.fieldsOf 73)) := by kernel_rfl
  have hp : Try.prog.stoodInHeld 73 = false := by kernel_rfl
  obtain ⟨a1, a2⟩ := a
  obtain ⟨b1, b2⟩ := b
  unfold outV
  dsimp only
  rw [show (10000 : Nat) = 9999 + 1 from rfl, run_equalIn_agg w 9999 73 _ _ hS hp]
  simp only [Program.fieldsOf, Try.underlying73]
  have u1 := Try.underlying9
  have u2 := Try.underlying3
  go_simp
  rw [ByteArray.toList_eq, ByteArray.toList_eq]
  by_cases h1 : a1 = b1
  · subst h1
    by_cases h2 : a2 = b2
    · subst h2
      rw [eqB_yes rfl]
      simp
    · have : a2.data.toList ≠ b2.data.toList := fun h => h2 (by cases a2; cases b2; simp at h; simp [h])
      rw [eqB_no (fun h => h2 (congrArg POut.script h))]
      simp [this]
  · rw [eqB_no (fun h => h1 (congrArg POut.val h))]
    simp [h1]
set_option maxHeartbeats 1000000 in
theorem outEq_any (v1 v2 : Value) (l m : List POut) (w : World) (h1 : SlAt rpOut w v1 l) (h2 : SlAt rpOut w v2 m) : Calls Try.prog 40 #[v1, v2] w (BIs (eqB l m) w) := by
  obtain ⟨a, c, rfl, hl1, hl2⟩ := h1.shape
  obtain ⟨e, g, rfl, hm1, hm2⟩ := h2.shape
  rw [maxLen_eq] at hl2 hm2
  obtain ⟨r, hr⟩ : ∃ r, r = eqB l m := ⟨_, rfl⟩
  rw [← hr]
  obtain ⟨n, hn⟩ : ∃ n, n = l.length := ⟨_, rfl⟩
  obtain ⟨n', hn'⟩ : ∃ n, n = m.length := ⟨_, rfl⟩
  rw [← hn] at h1 hl1 ⊢
  rw [← hn'] at h2 hm1 ⊢
  have HR := Lib.hid hr
  have HN := Lib.hid hn
  have HN' := Lib.hid hn'
  have H1 := Lib.hid h1
  have H2 := Lib.hid h2
  clear hr hn hn' h1 h2
  go_enter Try.func40, Try.ntmps40
  by_cases hlm : n = n'
  rotate_left
  · have hz : (n : Int) ≠ n' := by omega
    have HF := Lib.hid (show r = false by rw [HR.out]; exact eqB_no (fun h => hlm (by rw [HN.out, HN'.out, h])))
    go_wp2_with fail
    go_ret
    exact ⟨ret_bool HF.out.symm, Below.refl _ _⟩
  subst hlm
  go_wp2_with fail
  go_loopg [13] n (fun gq i wr => ∃ (k : Nat), gq = n - k ∧ k ≤ n ∧ i = .int .i64 k ∧ Below w.heap.size w wr ∧ ∀ (j : Nat) (x y : POut), j < k → l[j]? = some x → m[j]? = some y → x = y)
  case atStart => exact ⟨0, rfl, by omega, rfl, Below.refl _ _, fun j x y hj => absurd hj (Nat.not_lt_zero _)⟩
  case round =>
    rename World => wo
    obtain ⟨k, hgk, hk, rfl, hb, hall⟩ := hrel
    have HGK := Lib.hid hgk
    have HALL := Lib.hid hall
    have HB := Lib.hid hb
    clear hgk hall hb
    by_cases hlt : k < n
    · obtain ⟨b1, o1, x, rfl, hx, -, x0, x1⟩ := (H1.out.below HB.out).outp hlt
      obtain ⟨b2, o2, y, rfl, hy, -, y0, y1⟩ := (H2.out.below HB.out).outp hlt
      have HX := Lib.hid hx
      have HY := Lib.hid hy
      clear hx hy
      have hlo : (0 : Int) ≤ (k : Int) := by omega
      have hgo := guardOut
      by_cases hxy : x = y
      · subst hxy
        have heq : ∀ w : World, (Op.equalIn 10000 73 (.agg #[.int .i64 x.val, .string x.script]) (.agg #[.int .i64 x.val, .string x.script])).run Try.prog w = .ok true w := fun w => by have := eqIn_out x x w; rw [eqB_yes rfl] at this; exact this
        have HST := Lib.hid (same_step HALL.out HX.out HY.out rfl)
        go_wp2_with fail
        go_quiet (fail)
        have HB2 := Lib.hid (HB.out.trans ((below_drewN wo nq).mono HB.out.size))
        go_wp2_with fail
        go_roundg (n - (k + 1))
        case measure => have := HGK.out; omega
        case rel => exact ⟨k + 1, rfl, by omega, by go_num, HB2.out, HST.out⟩
      · have heq : ∀ w : World, (Op.equalIn 10000 73 (.agg #[.int .i64 x.val, .string x.script]) (.agg #[.int .i64 y.val, .string y.script])).run Try.prog w = .ok false w := fun w => by have := eqIn_out x y w; rw [eqB_no hxy] at this; exact this
        have HF := Lib.hid (show r = false by rw [HR.out]; exact eqB_no (ne_at HX.out HY.out hxy))
        clear hxy
        go_wp2_with fail
        go_quiet (fail)
        have HB2 := Lib.hid (HB.out.trans ((below_drewN wo nq).mono HB.out.size))
        go_wp2_with fail
        go_ret
        exact ⟨ret_bool HF.out.symm, HB2.out⟩
    · obtain rfl : k = n := by omega
      have HF := Lib.hid (show r = true by rw [HR.out]; exact eqB_yes (list_same (by rw [← HN.out, ← HN'.out]) (fun j x y hj => HALL.out j x y (by rw [HN.out]; exact hj))))
      go_wp2_with fail
      go_ret
      exact ⟨ret_bool HF.out.symm, HB.out⟩

theorem in_below {w w' : World} {v : Value} {x : PIn} (h : InAt w v x) (hb : Below w.heap.size w w') : InAt w' v x := by
  obtain ⟨wv, h1, h2, h3, h4, h5⟩ := h
  exact ⟨wv, h1, h2.below hb, h3, h4, h5⟩
theorem in_ne_pt {x y : PIn} (h : (x.id, x.idx) ≠ (y.id, y.idx)) : x ≠ y := fun e => h (by rw [e])
theorem in_eq {x y : PIn} (h : (x.id, x.idx) = (y.id, y.idx)) (hs : x.seq = y.seq) (hw : x.wit = y.wit) : x = y := by
  have h1 := congrArg Prod.fst h
  have h2 := congrArg Prod.snd h
  exact in_same h1 h2 hs hw
set_option maxHeartbeats 1000000 in
theorem inEq_any (v1 v2 : Value) (x y : PIn) (w : World) (h1 : InAt w v1 x) (h2 : InAt w v2 y) : Calls Try.prog 39 #[v1, v2] w (BIs (eqB x y) w) := by
  obtain ⟨u1, rfl, hs1, -, -, -⟩ := h1
  obtain ⟨u2, rfl, hs2, -, -, -⟩ := h2
  obtain ⟨a1, c1, rfl, -, -⟩ := hs1.shape
  obtain ⟨a2, c2, rfl, -, -⟩ := hs2.shape
  obtain ⟨r, hr⟩ : ∃ r, r = eqB x y := ⟨_, rfl⟩
  rw [← hr]
  obtain ⟨l, hl⟩ : ∃ l, l = x.wit.length := ⟨_, rfl⟩
  obtain ⟨l2, hl2⟩ : ∃ l, l = y.wit.length := ⟨_, rfl⟩
  rw [← hl] at hs1 ⊢
  rw [← hl2] at hs2 ⊢
  have HR := Lib.hid hr
  obtain ⟨hal, hz1, hz2⟩ := two_boxes w #[.string x.id, .int .u32 x.idx, .int .u32 x.seq, .slice a1 l c1] #[.string y.id, .int .u32 y.idx, .int .u32 y.seq, .slice a2 l2 c2] 71
  have H1 := Lib.hid (hs1.below hal)
  have H2 := Lib.hid (hs2.below hal)
  clear hr hs1 hs2 hl hl2
  go_enter Try.func39, Try.ntmps39
  go_upto_region 1 with fail
  generalize (w.alloc (.cells #[.string x.id, .int .u32 x.idx, .int .u32 x.seq, .slice a1 l c1] 71)).alloc (.cells #[.string y.id, .int .u32 y.idx, .int .u32 y.seq, .slice a2 l2 c2] 71) = w0 at *
  have p0 : w0.cell? ⟨w.heap.size, 0, none⟩ = some (.string x.id) := cell_at hz1
  have p1 : w0.cell? ⟨w.heap.size, 1, none⟩ = some (.int .u32 x.idx) := cell_at hz1
  have p2 : w0.cell? ⟨w.heap.size, 2, none⟩ = some (.int .u32 x.seq) := cell_at hz1
  have p3 : w0.cell? ⟨w.heap.size, 3, none⟩ = some (.slice a1 l c1) := cell_at hz1
  have q0 : w0.cell? ⟨w.heap.size + 1, 0, none⟩ = some (.string y.id) := cell_at hz2
  have q1 : w0.cell? ⟨w.heap.size + 1, 1, none⟩ = some (.int .u32 y.idx) := cell_at hz2
  have q2 : w0.cell? ⟨w.heap.size + 1, 2, none⟩ = some (.int .u32 y.seq) := cell_at hz2
  have q3 : w0.cell? ⟨w.heap.size + 1, 3, none⟩ = some (.slice a2 l2 c2) := cell_at hz2
  have HAL := Lib.hid hal
  have hgp := guardPt
  clear hal hz1 hz2
  by_cases hpt : (x.id, x.idx) = (y.id, y.idx)
  rotate_left
  · have heq : ∀ w : World, (Op.equalIn 10000 34 (.agg #[.string x.id, .int .u32 x.idx]) (.agg #[.string y.id, .int .u32 y.idx])).run Try.prog w = .ok false w := fun w => by have := eqIn_pt (x.id, x.idx) (y.id, y.idx) w; rw [decide_eq_false hpt] at this; exact this
    have HF := Lib.hid (show r = false by rw [HR.out]; exact eqB_no (in_ne_pt hpt))
    clear hpt
    go_wp2_with fail
    go_ret
    exact ⟨ret_bool HF.out.symm, HAL.out⟩
  have heq : ∀ w : World, (Op.equalIn 10000 34 (.agg #[.string x.id, .int .u32 x.idx]) (.agg #[.string y.id, .int .u32 y.idx])).run Try.prog w = .ok true w := fun w => by have := eqIn_pt (x.id, x.idx) (y.id, y.idx) w; rw [decide_eq_true hpt] at this; exact this
  have HP := Lib.hid hpt
  clear hpt
  by_cases hsq : x.seq = y.seq
  rotate_left
  · have hz : (x.seq : Int) ≠ y.seq := by omega
    have HF := Lib.hid (show r = false by rw [HR.out]; exact eqB_no (fun h => hsq (by rw [h])))
    clear hsq
    go_wp2_with fail
    go_ret
    exact ⟨ret_bool HF.out.symm, HAL.out⟩
  rw [← hsq] at q2
  have HS := Lib.hid hsq
  clear hsq
  have hrw : eqB x.wit y.wit = r := by
    rw [HR.out]
    by_cases hw : x.wit = y.wit
    · rw [eqB_yes hw, eqB_yes (in_eq HP.out HS.out hw)]
    · rw [eqB_no hw, eqB_no (fun h => hw (by rw [h]))]
  have HE := Lib.hid (hrw ▸ strEq_any _ _ _ _ w0 H1.out H2.out)
  clear hrw
  go_wp2_with fail
  refine HE.out.mono ?_
  rintro e w1 ⟨rfl, hb⟩
  go_wp2_with fail
  go_ret
  exact ⟨rfl, HAL.out.trans (hb.mono HAL.out.size)⟩

set_option maxHeartbeats 1000000 in
theorem insEq_any (v1 v2 : Value) (l m : List PIn) (w : World) (h1 : SlAt rpIn w v1 l) (h2 : SlAt rpIn w v2 m) : Calls Try.prog 38 #[v1, v2, .func (.func 39) #[] #[]] w (BIs (eqB l m) w) := by
  obtain ⟨a, c, rfl, hl1, hl2⟩ := h1.shape
  obtain ⟨e, g, rfl, hm1, hm2⟩ := h2.shape
  rw [maxLen_eq] at hl2 hm2
  obtain ⟨r, hr⟩ : ∃ r, r = eqB l m := ⟨_, rfl⟩
  rw [← hr]
  obtain ⟨n, hn⟩ : ∃ n, n = l.length := ⟨_, rfl⟩
  obtain ⟨n', hn'⟩ : ∃ n, n = m.length := ⟨_, rfl⟩
  rw [← hn] at h1 hl1 ⊢
  rw [← hn'] at h2 hm1 ⊢
  have HR := Lib.hid hr
  have HN := Lib.hid hn
  have HN' := Lib.hid hn'
  have H1 := Lib.hid h1
  have H2 := Lib.hid h2
  clear hr hn hn' h1 h2
  go_enter Try.func38, Try.ntmps38
  by_cases hlm : n = n'
  rotate_left
  · have hz : (n : Int) ≠ n' := by omega
    have HF := Lib.hid (show r = false by rw [HR.out]; exact eqB_no (fun h => hlm (by rw [HN.out, HN'.out, h])))
    go_wp2_with fail
    go_ret
    exact ⟨ret_bool HF.out.symm, Below.refl _ _⟩
  subst hlm
  go_wp2_with fail
  go_loopg [17] n (fun gq i wr => ∃ (k : Nat), gq = n - k ∧ k ≤ n ∧ i = .int .i64 k ∧ Below w.heap.size w wr ∧ ∀ (j : Nat) (x y : PIn), j < k → l[j]? = some x → m[j]? = some y → x = y)
  case atStart => exact ⟨0, rfl, by omega, rfl, Below.refl _ _, fun j x y hj => absurd hj (Nat.not_lt_zero _)⟩
  case round =>
    rename World => wo
    obtain ⟨k, hgk, hk, rfl, hb, hall⟩ := hrel
    have HGK := Lib.hid hgk
    have HALL := Lib.hid hall
    have HB := Lib.hid hb
    clear hgk hall hb
    by_cases hlt : k < n
    · obtain ⟨b1, o1, x, wv, rfl, hx, hseq, hidx, hid, hwv, x0, x1, x2, x3⟩ := (H1.out.below HB.out).inp hlt
      obtain ⟨b2, o2, y, wv2, rfl, hy, hseq2, hidx2, hid2, hwv2, y0, y1, y2, y3⟩ := (H2.out.below HB.out).inp hlt
      obtain ⟨a1, c1, rfl, -, -⟩ := hwv.shape
      obtain ⟨a2, c2, rfl, -, -⟩ := hwv2.shape
      have HX := Lib.hid hx
      have HY := Lib.hid hy
      have A1 := Lib.hid (show InAt wo (.agg #[.string x.id, .int .u32 x.idx, .int .u32 x.seq, .slice a1 x.wit.length c1]) x from ⟨_, rfl, hwv, hidx, hseq, hid⟩)
      have A2 := Lib.hid (show InAt wo (.agg #[.string y.id, .int .u32 y.idx, .int .u32 y.seq, .slice a2 y.wit.length c2]) y from ⟨_, rfl, hwv2, hidx2, hseq2, hid2⟩)
      obtain ⟨q1, hq1⟩ : ∃ q, q = x.wit.length := ⟨_, rfl⟩
      obtain ⟨q2, hq2⟩ : ∃ q, q = y.wit.length := ⟨_, rfl⟩
      rw [← hq1] at A1 x3
      rw [← hq2] at A2 y3
      clear hx hy hwv hwv2 hseq hseq2 hidx hidx2 hid hid2 hq1 hq2
      have hlo : (0 : Int) ≤ (k : Int) := by omega
      go_upto_region 6 with fail
      have hz := heap_alloc_new wo (.cells #[.string x.id, .int .u32 x.idx, .int .u32 x.seq, .slice a1 q1 c1] 71)
      have hal : Below wo.heap.size wo (wo.alloc (.cells #[.string x.id, .int .u32 x.idx, .int .u32 x.seq, .slice a1 q1 c1] 71)) := (Below.refl _ _).alloc (Nat.le_refl _) _
      obtain ⟨X, hX⟩ : ∃ q, q = wo.heap.size := ⟨_, rfl⟩
      rw [← hX] at hz ⊢
      generalize wo.alloc (.cells #[.string x.id, .int .u32 x.idx, .int .u32 x.seq, .slice a1 q1 c1] 71) = w1 at *
      have hb := hal
      replace y0 := below_cells hb _ _ y0
      replace y1 := below_cells hb _ _ y1
      replace y2 := below_cells hb _ _ y2
      replace y3 := below_cells hb _ _ y3
      have p0 : w1.cell? ⟨X, 0, none⟩ = some (.string x.id) := cell_at hz
      have p1 : w1.cell? ⟨X, 1, none⟩ = some (.int .u32 x.idx) := cell_at hz
      have p2 : w1.cell? ⟨X, 2, none⟩ = some (.int .u32 x.seq) := cell_at hz
      have p3 : w1.cell? ⟨X, 3, none⟩ = some (.slice a1 q1 c1) := cell_at hz
      have HB1 := Lib.hid hb
      clear hz hal hb hX x0 x1 x2 x3
      go_upto_region 7 with fail
      have hz := heap_alloc_new w1 (.cells #[.string y.id, .int .u32 y.idx, .int .u32 y.seq, .slice a2 q2 c2] 71)
      have hal : Below w1.heap.size w1 (w1.alloc (.cells #[.string y.id, .int .u32 y.idx, .int .u32 y.seq, .slice a2 q2 c2] 71)) := (Below.refl _ _).alloc (Nat.le_refl _) _
      obtain ⟨Y, hY⟩ : ∃ q, q = w1.heap.size := ⟨_, rfl⟩
      rw [← hY] at hz ⊢
      generalize w1.alloc (.cells #[.string y.id, .int .u32 y.idx, .int .u32 y.seq, .slice a2 q2 c2] 71) = w2 at *
      have hb := hal
      replace p0 := below_cells hb _ _ p0
      replace p1 := below_cells hb _ _ p1
      replace p2 := below_cells hb _ _ p2
      replace p3 := below_cells hb _ _ p3
      have q0 : w2.cell? ⟨Y, 0, none⟩ = some (.string y.id) := cell_at hz
      have qq1 : w2.cell? ⟨Y, 1, none⟩ = some (.int .u32 y.idx) := cell_at hz
      have qq2 : w2.cell? ⟨Y, 2, none⟩ = some (.int .u32 y.seq) := cell_at hz
      have q3 : w2.cell? ⟨Y, 3, none⟩ = some (.slice a2 q2 c2) := cell_at hz
      have HB2 := Lib.hid (HB1.out.trans (hb.mono HB1.out.size))
      have HC := Lib.hid (inEq_any _ _ x y w2 (in_below A1.out HB2.out) (in_below A2.out HB2.out))
      clear hz hal hb hY y0 y1 y2 y3 HB1 A1 A2
      by_cases hxy : x = y
      · have HST := Lib.hid (same_step HALL.out HX.out HY.out hxy)
        rw [eqB_yes hxy] at HC
        clear hxy
        go_wp2_with fail
        refine HC.out.mono ?_
        rintro e w3 ⟨rfl, hb⟩
        have HB3 := Lib.hid (HB.out.trans ((HB2.out.trans (hb.mono HB2.out.size)).mono HB.out.size))
        clear hb p0 p1 p2 p3 q0 qq1 qq2 q3
        go_wp2_with fail
        go_roundg (n - (k + 1))
        case measure => have := HGK.out; omega
        case rel => exact ⟨k + 1, rfl, by omega, by go_num, HB3.out, HST.out⟩
      · have HF := Lib.hid (show r = false by rw [HR.out]; exact eqB_no (ne_at HX.out HY.out hxy))
        rw [eqB_no hxy] at HC
        clear hxy
        go_wp2_with fail
        refine HC.out.mono ?_
        rintro e w3 ⟨rfl, hb⟩
        have HB3 := Lib.hid (HB.out.trans ((HB2.out.trans (hb.mono HB2.out.size)).mono HB.out.size))
        clear hb p0 p1 p2 p3 q0 qq1 qq2 q3
        go_wp2_with fail
        go_ret
        exact ⟨ret_bool HF.out.symm, HB3.out⟩
    · obtain rfl : k = n := by omega
      have HF := Lib.hid (show r = true by rw [HR.out]; exact eqB_yes (list_same (by rw [← HN.out, ← HN'.out]) (fun j x y hj => HALL.out j x y (by rw [HN.out]; exact hj))))
      go_wp2_with fail
      go_ret
      exact ⟨ret_bool HF.out.symm, HB.out⟩

set_option maxHeartbeats 1000000 in
theorem equal_any (v1 v2 : Value) (t u : PTx) (w : World) (h1 : TxAt w v1 t) (h2 : TxAt w v2 u) : Calls Try.prog 25 #[v1, v2] w (BIs (sameTx t u) w) := by
  obtain ⟨va, vo, rfl, hia, hob, -, -⟩ := h1
  obtain ⟨vc, vq, rfl, hic, hoq, -, -⟩ := h2
  obtain ⟨a, c, rfl, hl1, hl2⟩ := hia.shape
  obtain ⟨a', c', rfl, hl1', hl2'⟩ := hob.shape
  obtain ⟨e, g, rfl, hm1, hm2⟩ := hic.shape
  obtain ⟨e', g', rfl, hm1', hm2'⟩ := hoq.shape
  have htb := T2.start (t := t) (u := u) hia hob hic hoq
  have HTB := Lib.hid htb
  clear htb hia hob hic hoq
  obtain ⟨r, hr⟩ : ∃ r, r = sameTx t u := ⟨_, rfl⟩
  rw [← hr]
  have HR := Lib.hid hr
  clear hr
  obtain ⟨n, hn⟩ : ∃ n, n = t.ins.length := ⟨_, rfl⟩
  obtain ⟨n', hn'⟩ : ∃ n, n = t.outs.length := ⟨_, rfl⟩
  obtain ⟨m, hm⟩ : ∃ n, n = u.ins.length := ⟨_, rfl⟩
  obtain ⟨m', hm'⟩ : ∃ n, n = u.outs.length := ⟨_, rfl⟩
  rw [← hn, ← hn', ← hm, ← hm'] at HTB
  rw [← hn, ← hn', ← hm, ← hm']
  clear hn hn' hm hm' hl1 hl2 hl1' hl2' hm1 hm2 hm1' hm2'
  go_enter Try.func25, Try.ntmps25
  go_upto_region 1 with fail
  generalize (w.alloc (.cells #[.int .u32 t.ver, .slice a n c, .slice a' n' c', .int .u32 t.lock] 29)).alloc (.cells #[.int .u32 u.ver, .slice e m g, .slice e' m' g', .int .u32 u.lock] 29) = w0 at *
  have c0 : w0.cell? ⟨w.heap.size, 0, none⟩ = some (.int .u32 t.ver) := cell_at HTB.out.box1
  have c1 : w0.cell? ⟨w.heap.size, 1, none⟩ = some (.slice a n c) := cell_at HTB.out.box1
  have c2 : w0.cell? ⟨w.heap.size, 2, none⟩ = some (.slice a' n' c') := cell_at HTB.out.box1
  have c3 : w0.cell? ⟨w.heap.size, 3, none⟩ = some (.int .u32 t.lock) := cell_at HTB.out.box1
  have d0 : w0.cell? ⟨w.heap.size + 1, 0, none⟩ = some (.int .u32 u.ver) := cell_at HTB.out.box2
  have d1 : w0.cell? ⟨w.heap.size + 1, 1, none⟩ = some (.slice e m g) := cell_at HTB.out.box2
  have d2 : w0.cell? ⟨w.heap.size + 1, 2, none⟩ = some (.slice e' m' g') := cell_at HTB.out.box2
  have d3 : w0.cell? ⟨w.heap.size + 1, 3, none⟩ = some (.int .u32 u.lock) := cell_at HTB.out.box2
  by_cases hver : t.ver = u.ver
  rotate_left
  · have hz : (t.ver : Int) ≠ u.ver := by omega
    have HF := Lib.hid (same_no (fun h : t = u => hver (by rw [h])))
    go_wp2_with fail
    go_ret
    exact ⟨ret_bool (by rw [HR.out, HF.out]), HTB.out.bel⟩
  rw [← hver] at d0
  by_cases hlock : t.lock = u.lock
  rotate_left
  · have hz : (t.lock : Int) ≠ u.lock := by omega
    have HF := Lib.hid (same_no (fun h : t = u => hlock (by rw [h])))
    go_wp2_with fail
    go_ret
    exact ⟨ret_bool (by rw [HR.out, HF.out]), HTB.out.bel⟩
  rw [← hlock] at d3
  have HV := Lib.hid (And.intro hver hlock)
  clear hver hlock
  have HE := Lib.hid (insEq_any _ _ _ _ w0 HTB.out.ins1 HTB.out.ins2)
  by_cases hins : t.ins = u.ins
  rotate_left
  · have HF := Lib.hid (same_no (fun h : t = u => hins (by rw [h])))
    rw [eqB_no hins] at HE
    clear hins
    go_wp2_with fail
    refine HE.out.mono ?_
    rintro en w1 ⟨rfl, hb⟩
    go_wp2_with fail
    go_ret
    exact ⟨ret_bool (by rw [HR.out, HF.out]), HTB.out.bel.trans (hb.mono HTB.out.bel.size)⟩
  rw [eqB_yes hins] at HE
  have HI := Lib.hid hins
  clear hins
  go_wp2_with fail
  refine HE.out.mono ?_
  rintro en w1 ⟨rfl, hb⟩
  have hro : eqB t.outs u.outs = r := by
    rw [HR.out]
    by_cases ho : t.outs = u.outs
    · rw [eqB_yes ho, same_yes (tx_same HV.out.1 HI.out ho HV.out.2)]
    · rw [eqB_no ho, same_no (fun h => ho (by rw [h]))]
  replace c2 := below_cells hb _ _ c2
  replace d2 := below_cells hb _ _ d2
  have HTB := Lib.hid (HTB.out.next hb)
  have HE2 := Lib.hid (hro ▸ outEq_any _ _ _ _ w1 HTB.out.outs1 HTB.out.outs2)
  clear hro hb HE
  go_wp2_with fail
  refine HE2.out.mono ?_
  rintro en w2 ⟨rfl, hb⟩
  go_wp2_with fail
  go_ret
  exact ⟨rfl, HTB.out.bel.trans (hb.mono HTB.out.bel.size)⟩
end Go.Proofs.Ytaooibocknemkaa
end

section
/-
  Two or three blocks made one behind the other. Conditions: none.
-/
namespace Go.Proofs.Ytaooibocknemkaa
open Go.RowKit Go.BigFrame
theorem stay {w w1 : World} {b : Nat} {ob : Obj} (h : w.heap[b]? = some ob) (hb : Below w.heap.size w w1) : w1.heap[b]? = some ob := (hb.block _ (Array.getElem?_eq_some_iff.1 h).1).trans h
theorem stay_set {w : World} {b B j : Nat} {ob : Obj} {u : Value} (h : w.heap[b]? = some ob) (hb : b ≠ B) : (w.setCell ⟨B, j, none⟩ u).heap[b]? = some ob := (Below.heap_setCell _ _ _ _ hb).trans h
theorem lt_of {w : World} {b : Nat} {ob : Obj} (h : w.heap[b]? = some ob) : b < w.heap.size := (Array.getElem?_eq_some_iff.1 h).1
theorem new2 (w : World) (X : Nat) (hX : X = w.heap.size) (o1 o2 : Obj) : ((w.alloc o1).alloc o2).heap[X]? = some o1 ∧ ((w.alloc o1).alloc o2).heap[X + 1]? = some o2 ∧ Below w.heap.size w ((w.alloc o1).alloc o2) := by
  subst hX
  have h1 := heap_alloc_new w o1
  have h2 := heap_alloc_new (w.alloc o1) o2
  have hs : (w.alloc o1).heap.size = w.heap.size + 1 := by simp
  have hb : Below (w.alloc o1).heap.size (w.alloc o1) ((w.alloc o1).alloc o2) := (Below.refl _ _).alloc (Nat.le_refl _) o2
  rw [hs] at h2
  exact ⟨(hb.block _ (Array.getElem?_eq_some_iff.1 h1).1).trans h1, h2, ((Below.refl _ _).alloc (Nat.le_refl _) o1).trans (hb.mono (by omega))⟩
theorem new3 (w : World) (X : Nat) (hX : X = w.heap.size) (o1 o2 o3 : Obj) : (((w.alloc o1).alloc o2).alloc o3).heap[X]? = some o1 ∧ (((w.alloc o1).alloc o2).alloc o3).heap[X + 1]? = some o2 ∧ (((w.alloc o1).alloc o2).alloc o3).heap[X + 1 + 1]? = some o3 ∧ Below w.heap.size w (((w.alloc o1).alloc o2).alloc o3) := by
  obtain ⟨h1, h2, h3⟩ := new2 w X hX o1 o2
  subst hX
  have h4 := heap_alloc_new ((w.alloc o1).alloc o2) o3
  have hs : ((w.alloc o1).alloc o2).heap.size = w.heap.size + 1 + 1 := by simp
  have hb : Below ((w.alloc o1).alloc o2).heap.size ((w.alloc o1).alloc o2) (((w.alloc o1).alloc o2).alloc o3) := (Below.refl _ _).alloc (Nat.le_refl _) o3
  rw [hs] at h4
  exact ⟨(hb.block _ (Array.getElem?_eq_some_iff.1 h1).1).trans h1, (hb.block _ (Array.getElem?_eq_some_iff.1 h2).1).trans h2, h4, h3.trans (hb.mono (by omega))⟩
end Go.Proofs.Ytaooibocknemkaa
end
