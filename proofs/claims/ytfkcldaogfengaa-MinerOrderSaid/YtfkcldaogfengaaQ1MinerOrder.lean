/-
  MinerOrder, part 1: the texts Mq, TxQ, TxD, TxJ, one after another. Conditions: none beyond those named at each.
-/
import Derived.Test.YtfkcldaogfengaaMp
import Derived.Test.YtfkcldaogfengaaFit
import Derived.Test.YtfkcldaogfengaaTxH
import Derived.Test.YtfkcldaogfengaaReg
section
/-
  The document's Make of a transaction out of plain data: what grows. Conditions: none beyond each theorem's own.
-/
namespace Go.Proofs.Ytfkcldaogfengaa
open Go.RowKit Go.BigFrame
set_option linter.unusedVariables false
set_option linter.unusedSimpArgs false

/-- A small transaction as plain data. -/
structure PSm where
  from_ : List Nat
  index : Nat
  outs : Nat
  fee : Int
  mark : Nat
  long : Nat
def ascii40 : ByteArray := ⟨#[48, 49, 50, 51, 52, 53, 54, 55, 56, 57, 48, 49, 50, 51, 52, 53, 54, 55, 56, 57, 48, 49, 50, 51, 52, 53, 54, 55, 56, 57, 48, 49, 50, 51, 52, 53, 54, 55, 56, 57]⟩
def scr9 : ByteArray := ⟨#[1, 1, 0, 0, 0, 0, 0, 0, 0]⟩
def fromId (l : List PE) (f : Nat) : ByteArray := if f < 128 ∧ 0 < l.length then (match l[f % l.length]? with | some x => x.id | none => ⟨#[]⟩) else idB ((f % 16 : Nat) : Int)
def makeIn (l : List PE) (z : PSm) (i : Nat) : PIn := ⟨fromId l (z.from_.getD i 0), (z.index >>> (2 * i)) % 4, 4294967293, []⟩
def makeT (l : List PE) (z : PSm) : PTx :=
  ⟨2, (List.range (min z.from_.length 4)).map (makeIn l z), (List.range (z.outs % 3 + 1)).map (fun i => ⟨1000 + (i : Int), scr9⟩) ++ List.replicate z.long ⟨1000, ascii40⟩, z.mark⟩
structure MK (w : World) (X : Nat) (zc : Array Value) (mark : Nat) (vi vo : Value) (ps : List (PIn × Value)) (os : List POut) (wr : World) : Prop where
  bel : Below w.heap.size w wr
  xw : X = w.heap.size
  bz : wr.heap[X]? = some (.cells zc 54 (0, 0))
  br : wr.heap[X + 1]? = some (.cells #[.int .u32 0, .slice none 0 0, .slice none 0 0, .int .u32 0] 41 (0, 0))
  bu : wr.heap[X + 2]? = some (.cells #[.int .u32 2, vi, vo, .int .u32 mark] 41 (0, 0))
  ins : InsOwn (X + 3) wr vi ps
  outs : OutsOwn (X + 3) wr vo os
  ap : ∀ b, vo.ownBlock = some b → ¬ InsHas vi ps b
section
variable {w wr w' : World} {X mark : Nat} {zc : Array Value} {vi vo : Value} {ps : List (PIn × Value)} {os : List POut}
theorem MK.below (h : MK w X zc mark vi vo ps os wr) (hb : Below wr.heap.size wr w') : MK w X zc mark vi vo ps os w' :=
  ⟨h.bel.trans (hb.mono h.bel.size), h.xw, stay h.bz hb, stay h.br hb, stay h.bu hb, h.ins.below hb, h.outs.below hb, h.ap⟩
theorem MK.addIn (h : MK w X zc mark vi vo ps os wr) (x : PIn) (hw : x.wit = []) (hok : OkIn x) (hn : ps.length < 1000) :
    ∃ a' c' wd, (Builtin.append_ #[38, 38] 38 #[vi, .slice (some ⟨wr.heap.size, 0, none⟩) 1 1]).run Try.prog (wr.alloc (.cells #[.string x.id, .int .u32 x.idx, .int .u32 x.seq, .slice none 0 0] 66)) = .ok (.slice a' (ps.length + 1) c') wd ∧
      wd.heap[X + 2]? = some (.cells #[.int .u32 2, vi, vo, .int .u32 mark] 41 (0, 0)) ∧ MK w X zc mark (.slice a' (ps.length + 1) c') vo (ps ++ [(x, .slice none 0 0)]) os (wd.setCell ⟨X + 2, 1, none⟩ (.slice a' (ps.length + 1) c')) := by
  obtain ⟨i0, hi, hz0, hz1, hz2⟩ := info_parts info_in
  have hx := lt_of h.bu
  have hxw := h.xw
  obtain ⟨a2, c2, w2, hrun, hown2, hb2, hg2, hv2⟩ := append_one (P := Try.prog) Try.underlying38 hi hz0 hz1 hz2 rfl h.ins.row #[.string x.id, .int .u32 x.idx, .int .u32 x.seq, .slice none 0 0] rfl (by simp [Value.oneCell']) (by rw [maxLen_eq]; omega) (by omega) (by omega) (ty := 38)
  have keep : ∀ b, b < wr.heap.size → vi.ownBlock ≠ some b → w2.heap[b]? = wr.heap[b]? := fun b hb hne => by
    rw [hg2.block b (by simp; omega) (fun e => hne e.symm)]; exact Below.heap_alloc wr _ b hb
  have low : ∀ b, b < X + 3 → w2.heap[b]? = wr.heap[b]? := fun b hb => keep b (by omega) (fun e => by have := (h.ins.row.lt b e).1; omega)
  have other : ∀ b, b ≠ X + 2 → (w2.setCell ⟨X + 2, 1, none⟩ (.slice a2 (ps.length + 1) c2)).heap[b]? = w2.heap[b]? := fun b hb => Below.heap_setCell _ _ _ _ hb
  have hbu := (low (X + 2) (by omega)).trans h.bu
  have q1 := heap_setCell_at (j := 1) (u := .slice a2 (ps.length + 1) c2) hbu
  have hbel2 : Below w.heap.size w w2 := h.bel.trans (hb2.mono (by omega))
  have hins2 : InsOwn (X + 3) w2 (.slice a2 (ps.length + 1) c2) (ps ++ [(x, .slice none 0 0)]) := by
    refine h.ins.snoc (x := x) (wv := .slice none 0 0) hown2 ?_ keep ?_ hok (fun b hb => by cases hb)
    · rcases hv2 with e | e
      · exact .inl e
      · exact .inr ⟨_, e, by omega, fun e2 => by cases e2⟩
    · rw [hw]; exact World.ownsRow_nil _ _ _ _
  have houts2 : OutsOwn (X + 3) w2 vo os := h.outs.kept fun b hb => keep b (h.outs.row.lt b hb).2 (fun e => h.ap b hb (.inl e))
  refine ⟨a2, c2, w2, hrun, hbu, ⟨hbel2.trans ((Below.refl _ _).setCell (p := ⟨X + 2, 1, none⟩) (by show w.heap.size ≤ X + 2; omega) _), hxw, ?_, ?_, q1, ?_, ?_, ?_⟩⟩
  · rw [other X (by omega), low X (by omega)]; exact h.bz
  · rw [other (X + 1) (by omega), low (X + 1) (by omega)]; exact h.br
  · exact hins2.kept fun b hb => other b (by have := (hins2.lt hb).1; omega)
  · exact houts2.kept fun b hb => other b (by have := (houts2.row.lt b hb).1; omega)
  · intro b hb hh
    rcases hh with e | ⟨i, p, hp, hpb⟩
    · rcases hv2 with e2 | e2
      · exact h.ap b hb (.inl (e2 ▸ e))
      · rw [e2] at e
        injection e with e
        have := (h.outs.row.lt b hb).2
        omega
    · rcases Nat.lt_or_ge i ps.length with h1 | h1
      · rw [List.getElem?_append_left h1] at hp
        exact h.ap b hb (.inr ⟨i, p, hp, hpb⟩)
      · rw [List.getElem?_append_right h1] at hp
        have h0 : i - ps.length = 0 := by have := (List.getElem?_eq_some_iff.1 hp).1; simp at this; omega
        rw [h0] at hp
        obtain rfl : (x, Value.slice none 0 0) = p := by simpa using hp
        cases hpb
theorem MK.addOut (h : MK w X zc mark vi vo ps os wr) (x : POut) (hok : OkOut x) (hn : os.length < 1000) :
    ∃ a' c' wd, (Builtin.append_ #[39, 39] 39 #[vo, .slice (some ⟨wr.heap.size, 0, none⟩) 1 1]).run Try.prog (wr.alloc (.cells #[.int .i64 x.val, .string x.script] 73)) = .ok (.slice a' (os.length + 1) c') wd ∧
      wd.heap[X + 2]? = some (.cells #[.int .u32 2, vi, vo, .int .u32 mark] 41 (0, 0)) ∧ MK w X zc mark vi (.slice a' (os.length + 1) c') ps (os ++ [x]) (wd.setCell ⟨X + 2, 2, none⟩ (.slice a' (os.length + 1) c')) := by
  obtain ⟨i0, hi, hz0, hz1, hz2⟩ := info_parts info_out
  have hx := lt_of h.bu
  have hxw := h.xw
  obtain ⟨a2, c2, w2, hrun, hown2, hb2, hg2, hv2⟩ := append_one (P := Try.prog) Try.underlying39 hi hz0 hz1 hz2 rfl h.outs.row #[.int .i64 x.val, .string x.script] rfl (by simp [Value.oneCell']) (by rw [maxLen_eq]; omega) (by omega) (by omega) (ty := 39)
  have keep : ∀ b, b < wr.heap.size → vo.ownBlock ≠ some b → w2.heap[b]? = wr.heap[b]? := fun b hb hne => by
    rw [hg2.block b (by simp; omega) (fun e => hne e.symm)]; exact Below.heap_alloc wr _ b hb
  have low : ∀ b, b < X + 3 → w2.heap[b]? = wr.heap[b]? := fun b hb => keep b (by omega) (fun e => by have := (h.outs.row.lt b e).1; omega)
  have other : ∀ b, b ≠ X + 2 → (w2.setCell ⟨X + 2, 2, none⟩ (.slice a2 (os.length + 1) c2)).heap[b]? = w2.heap[b]? := fun b hb => Below.heap_setCell _ _ _ _ hb
  have hbu := (low (X + 2) (by omega)).trans h.bu
  have q1 := heap_setCell_at (j := 2) (u := .slice a2 (os.length + 1) c2) hbu
  have hbel2 : Below w.heap.size w w2 := h.bel.trans (hb2.mono (by omega))
  have houts2 : OutsOwn (X + 3) w2 (.slice a2 (os.length + 1) c2) (os ++ [x]) := ⟨by
    rw [List.length_append]
    have e1 : outsCells (os ++ [x]) = outsCells os ++ [.int .i64 x.val, .string x.script] := by simp [outsCells, outRow]
    rw [e1]
    exact hown2, fun y hy => by
    rcases List.mem_append.1 hy with hy | hy
    · exact h.outs.ok y hy
    · rw [List.mem_singleton.1 hy]; exact hok⟩
  have hins2 : InsOwn (X + 3) w2 vi ps := h.ins.kept fun b hb => keep b (h.ins.lt hb).2 (fun e => h.ap b e hb)
  refine ⟨a2, c2, w2, hrun, hbu, ⟨hbel2.trans ((Below.refl _ _).setCell (p := ⟨X + 2, 2, none⟩) (by show w.heap.size ≤ X + 2; omega) _), hxw, ?_, ?_, q1, ?_, ?_, ?_⟩⟩
  · rw [other X (by omega), low X (by omega)]; exact h.bz
  · rw [other (X + 1) (by omega), low (X + 1) (by omega)]; exact h.br
  · exact hins2.kept fun b hb => other b (by have := (hins2.lt hb).1; omega)
  · exact houts2.kept fun b hb => other b (by have := (houts2.row.lt b hb).1; omega)
  · intro b hb hh
    rcases hv2 with e2 | e2
    · exact h.ap b (e2 ▸ hb) hh
    · rw [e2] at hb
      injection hb with hb
      have := (h.ins.lt hh).2
      omega
end
end Go.Proofs.Ytfkcldaogfengaa
end

section
/-
  The document's Same. Conditions: none beyond each theorem's own.
-/
namespace Go.Proofs.Ytfkcldaogfengaa
open Go.RowKit Go.BigFrame
set_option linter.unusedVariables false
set_option linter.unusedSimpArgs false

noncomputable def sameTx (t u : PTx) : Bool := @decide (t = u) (Classical.propDecidable _)
theorem same_yes {t u : PTx} (h : t = u) : sameTx t u = true := @decide_eq_true _ (Classical.propDecidable _) h
theorem same_no {t u : PTx} (h : t ≠ u) : sameTx t u = false := @decide_eq_false _ (Classical.propDecidable _) h

/-- The call's boxes of two transactions. -/
structure T2 (w : World) (va vo vc vq : Value) (t u : PTx) (wr : World) : Prop where
  bel : Below w.heap.size w wr
  box1 : wr.heap[w.heap.size]? = some (.cells #[.int .u32 t.ver, va, vo, .int .u32 t.lock] 41 (0, 0))
  box2 : wr.heap[w.heap.size + 1]? = some (.cells #[.int .u32 u.ver, vc, vq, .int .u32 u.lock] 41 (0, 0))
  ins1 : SlAt rpIn wr va t.ins
  outs1 : SlAt rpOut wr vo t.outs
  ins2 : SlAt rpIn wr vc u.ins
  outs2 : SlAt rpOut wr vq u.outs
theorem T2.next {w wr w' : World} {va vo vc vq : Value} {t u : PTx} (h : T2 w va vo vc vq t u wr) (hb : Below wr.heap.size wr w') : T2 w va vo vc vq t u w' :=
  ⟨h.bel.trans (hb.mono h.bel.size), by rw [hb.block _ (Array.getElem?_eq_some_iff.1 h.box1).1]; exact h.box1, by rw [hb.block _ (Array.getElem?_eq_some_iff.1 h.box2).1]; exact h.box2, h.ins1.below hb, h.outs1.below hb, h.ins2.below hb, h.outs2.below hb⟩
theorem T2.start {w : World} {va vo vc vq : Value} {t u : PTx} (h1 : SlAt rpIn w va t.ins) (h2 : SlAt rpOut w vo t.outs) (h3 : SlAt rpIn w vc u.ins) (h4 : SlAt rpOut w vq u.outs) :
    T2 w va vo vc vq t u ((w.alloc (.cells #[.int .u32 t.ver, va, vo, .int .u32 t.lock] 41)).alloc (.cells #[.int .u32 u.ver, vc, vq, .int .u32 u.lock] 41)) := by
  have s1 : (w.alloc (.cells #[.int .u32 t.ver, va, vo, .int .u32 t.lock] 41)).heap.size = w.heap.size + 1 := by simp
  have hb : Below w.heap.size w ((w.alloc (.cells #[.int .u32 t.ver, va, vo, .int .u32 t.lock] 41)).alloc (.cells #[.int .u32 u.ver, vc, vq, .int .u32 u.lock] 41)) :=
    ((Below.refl _ _).alloc (Nat.le_refl _) _).alloc (by rw [s1]; omega) _
  refine ⟨hb, ?_, ?_, h1.below hb, h2.below hb, h3.below hb, h4.below hb⟩
  · rw [Below.heap_alloc _ _ _ (by rw [s1]; omega)]
    exact heap_alloc_new w _
  · rw [← s1]
    exact heap_alloc_new _ _
theorem tx_same {t u : PTx} (h1 : t.ver = u.ver) (h2 : t.ins = u.ins) (h3 : t.outs = u.outs) (h4 : t.lock = u.lock) : t = u := by
  cases t; cases u; simp only at h1 h2 h3 h4; rw [h1, h2, h3, h4]
theorem in_same {t u : PIn} (h1 : t.id = u.id) (h2 : t.idx = u.idx) (h3 : t.seq = u.seq) (h4 : t.wit = u.wit) : t = u := by
  cases t; cases u; simp only at h1 h2 h3 h4; rw [h1, h2, h3, h4]
theorem out_same {t u : POut} (h1 : t.val = u.val) (h2 : t.script = u.script) : t = u := by
  cases t; cases u; simp only at h1 h2; rw [h1, h2]
theorem list_same {α : Type} {xs ys : List α} (hl : xs.length = ys.length) (h : ∀ (j : Nat) (x y : α), j < xs.length → xs[j]? = some x → ys[j]? = some y → x = y) : xs = ys := by
  apply List.ext_getElem hl
  intro i h1 h2
  exact h i _ _ h1 (List.getElem?_eq_getElem h1) (List.getElem?_eq_getElem h2)
theorem same_step {α : Type} {xs ys : List α} {k : Nat} {x y : α} (h : ∀ (j : Nat) (x y : α), j < k → xs[j]? = some x → ys[j]? = some y → x = y) (hx : xs[k]? = some x) (hy : ys[k]? = some y) (he : x = y) : ∀ (j : Nat) (x y : α), j < k + 1 → xs[j]? = some x → ys[j]? = some y → x = y := by
  intro j x' y' hj hx' hy'
  rcases Nat.lt_or_ge j k with h1 | h1
  · exact h j x' y' h1 hx' hy'
  · obtain rfl : j = k := by omega
    rw [hx] at hx'
    rw [hy] at hy'
    obtain rfl := Option.some.inj hx'
    obtain rfl := Option.some.inj hy'
    exact he
theorem ne_at {α : Type} {xs ys : List α} {k : Nat} {x y : α} (hx : xs[k]? = some x) (hy : ys[k]? = some y) (hne : x ≠ y) : xs ≠ ys := by
  rintro rfl
  rw [hx] at hy
  exact hne (Option.some.inj hy)
theorem bytes_ne {a b : ByteArray} (h : a ≠ b) : (a.toList == b.toList) = false := by
  rw [ByteArray.toList_eq, ByteArray.toList_eq, beq_eq_false_iff_ne]
  intro h'
  apply h
  cases a; cases b
  simp at h'
  rw [h']
theorem bytes_ne' {a b : ByteArray} (h : a ≠ b) : (a.toList != b.toList) = true := by
  rw [bne, bytes_ne h]; rfl

set_option maxRecDepth 100000 in
set_option maxHeartbeats 4000000 in
theorem same_any (v1 v2 : Value) (t u : PTx) (w : World) (h1 : TxAt w v1 t) (h2 : TxAt w v2 u) : Calls Try.prog 15 #[v1, v2] w (BIs (sameTx t u) w) := by
  obtain ⟨va, vo, rfl, hia, hob, -, -⟩ := h1
  obtain ⟨vc, vq, rfl, hic, hoq, -, -⟩ := h2
  obtain ⟨a, c, rfl, hl1, hl2⟩ := hia.shape
  obtain ⟨a', c', rfl, hl1', hl2'⟩ := hob.shape
  obtain ⟨e, g, rfl, hm1, hm2⟩ := hic.shape
  obtain ⟨e', g', rfl, hm1', hm2'⟩ := hoq.shape
  rw [maxLen_eq] at hl2 hl2' hm2 hm2'
  have htb := T2.start (t := t) (u := u) hia hob hic hoq
  have HTB := Lib.hid htb
  clear htb hia hob hic hoq
  obtain ⟨r, hr⟩ : ∃ r, r = sameTx t u := ⟨_, rfl⟩
  rw [← hr]
  have HR := Lib.hid hr
  clear hr
  obtain ⟨n, hn⟩ : ∃ n, n = t.ins.length := ⟨_, rfl⟩
  obtain ⟨n', hn'⟩ : ∃ n, n = t.outs.length := ⟨_, rfl⟩
  obtain ⟨m, hm⟩ : ∃ n, n = u.ins.length := ⟨_, rfl⟩
  obtain ⟨m', hm'⟩ : ∃ n, n = u.outs.length := ⟨_, rfl⟩
  rw [← hn, ← hn', ← hm, ← hm'] at HTB
  rw [← hn] at hl1
  rw [← hn'] at hl1'
  rw [← hm] at hm1
  rw [← hm'] at hm1'
  rw [← hn, ← hn', ← hm, ← hm']
  have HN := Lib.hid hn
  have HN' := Lib.hid hn'
  have HM := Lib.hid hm
  have HM' := Lib.hid hm'
  clear hn hn' hm hm'
  go_enter Try.func15, Try.ntmps15
  go_upto_region 1 with fail
  generalize (w.alloc (.cells #[.int .u32 t.ver, .slice a n c, .slice a' n' c', .int .u32 t.lock] 41)).alloc (.cells #[.int .u32 u.ver, .slice e m g, .slice e' m' g', .int .u32 u.lock] 41) = w0 at *
  have c0 : w0.cell? ⟨w.heap.size, 0, none⟩ = some (.int .u32 t.ver) := cell_at HTB.out.box1
  have c1 : w0.cell? ⟨w.heap.size, 1, none⟩ = some (.slice a n c) := cell_at HTB.out.box1
  have c2 : w0.cell? ⟨w.heap.size, 2, none⟩ = some (.slice a' n' c') := cell_at HTB.out.box1
  have c3 : w0.cell? ⟨w.heap.size, 3, none⟩ = some (.int .u32 t.lock) := cell_at HTB.out.box1
  have d0 : w0.cell? ⟨w.heap.size + 1, 0, none⟩ = some (.int .u32 u.ver) := cell_at HTB.out.box2
  have d1 : w0.cell? ⟨w.heap.size + 1, 1, none⟩ = some (.slice e m g) := cell_at HTB.out.box2
  have d2 : w0.cell? ⟨w.heap.size + 1, 2, none⟩ = some (.slice e' m' g') := cell_at HTB.out.box2
  have d3 : w0.cell? ⟨w.heap.size + 1, 3, none⟩ = some (.int .u32 u.lock) := cell_at HTB.out.box2
  by_cases hver : t.ver = u.ver
  rotate_left
  · have hz : (t.ver : Int) ≠ u.ver := by omega
    have HF := Lib.hid (same_no (fun h : t = u => hver (by rw [h])))
    go_wp2_with fail
    go_ret
    exact ⟨ret_bool (by rw [HR.out, HF.out]), HTB.out.bel⟩
  rw [← hver] at d0
  by_cases hlock : t.lock = u.lock
  rotate_left
  · have hz : (t.lock : Int) ≠ u.lock := by omega
    have HF := Lib.hid (same_no (fun h : t = u => hlock (by rw [h])))
    go_wp2_with fail
    go_ret
    exact ⟨ret_bool (by rw [HR.out, HF.out]), HTB.out.bel⟩
  rw [← hlock] at d3
  by_cases hnm : n = m
  rotate_left
  · have hz : (n : Int) ≠ m := by omega
    have HF := Lib.hid (same_no (fun h : t = u => hnm (by rw [HN.out, HM.out, h])))
    go_wp2_with fail
    go_ret
    exact ⟨ret_bool (by rw [HR.out, HF.out]), HTB.out.bel⟩
  subst hnm
  by_cases hnm : n' = m'
  rotate_left
  · have hz : (n' : Int) ≠ m' := by omega
    have HF := Lib.hid (same_no (fun h : t = u => hnm (by rw [HN'.out, HM'.out, h])))
    go_wp2_with fail
    go_ret
    exact ⟨ret_bool (by rw [HR.out, HF.out]), HTB.out.bel⟩
  subst hnm
  have HV := Lib.hid (And.intro hver hlock)
  clear hver hlock
  go_wp2_with fail
  go_loopg [5] n (fun gq i wr => ∃ (k : Nat), gq = n - k ∧ k ≤ n ∧ i = .int .i64 k ∧ T2 w (.slice a n c) (.slice a' n' c') (.slice e n g) (.slice e' n' g') t u wr ∧ ∀ (j : Nat) (x y : PIn), j < k → t.ins[j]? = some x → u.ins[j]? = some y → x = y)
  case atStart => exact ⟨0, rfl, by omega, rfl, HTB.out, fun j x y hj => absurd hj (Nat.not_lt_zero _)⟩
  case round =>
    clear c0 c1 c2 c3 d0 d1 d2 d3 HTB
    rename World => wo
    obtain ⟨k, hgk, hk, rfl, htb, hall⟩ := hrel
    have HGK := Lib.hid hgk
    have HALL := Lib.hid hall
    have HTB := Lib.hid htb
    have c1 : wo.cell? ⟨w.heap.size, 1, none⟩ = some (.slice a n c) := cell_at htb.box1
    have d1 : wo.cell? ⟨w.heap.size + 1, 1, none⟩ = some (.slice e n g) := cell_at htb.box2
    clear hgk hall htb
    by_cases hlt : k < n
    · obtain ⟨b, o, x, wv, rfl, hx, hseq, hidx, hid, hwv, x0, x1, x2, x3⟩ := HTB.out.ins1.inp hlt
      obtain ⟨b2, o2, y, wv2, rfl, hy, hseq2, hidx2, hid2, hwv2, y0, y1, y2, y3⟩ := HTB.out.ins2.inp hlt
      obtain ⟨wa, wc, rfl, hw1, hw2⟩ := hwv.shape
      obtain ⟨wa2, wc2, rfl, hw12, hw22⟩ := hwv2.shape
      rw [maxLen_eq] at hw2 hw22
      have HX := Lib.hid hx
      have HY := Lib.hid hy
      obtain ⟨l, hl⟩ : ∃ l, l = x.wit.length := ⟨_, rfl⟩
      obtain ⟨l2, hl2⟩ : ∃ l, l = y.wit.length := ⟨_, rfl⟩
      rw [← hl] at hwv hw1 x3
      rw [← hl2] at hwv2 hw12 y3
      have HW := Lib.hid hwv
      have HW2 := Lib.hid hwv2
      have HL := Lib.hid hl
      have HL2 := Lib.hid hl2
      clear hx hy hwv hwv2 hl hl2
      go_upto_region 7 with fail
      have hz := heap_alloc_new wo (.cells #[.string x.id, .int .u32 x.idx, .int .u32 x.seq, .slice wa l wc] 66)
      have hb : Below wo.heap.size wo (wo.alloc (.cells #[.string x.id, .int .u32 x.idx, .int .u32 x.seq, .slice wa l wc] 66)) := (Below.refl _ _).alloc (Nat.le_refl _) _
      obtain ⟨X, hX⟩ : ∃ X, X = wo.heap.size := ⟨_, rfl⟩
      rw [← hX] at hz ⊢
      generalize wo.alloc (.cells #[.string x.id, .int .u32 x.idx, .int .u32 x.seq, .slice wa l wc] 66) = w1 at *
      replace y0 := below_cells hb _ _ y0
      replace y1 := below_cells hb _ _ y1
      replace y2 := below_cells hb _ _ y2
      replace y3 := below_cells hb _ _ y3
      replace d1 := below_cells hb _ _ d1
      have HT1 := Lib.hid (HTB.out.next hb)
      have HW := Lib.hid (HW.out.below hb)
      have HW2 := Lib.hid (HW2.out.below hb)
      have p0 : w1.cell? ⟨X, 0, none⟩ = some (.string x.id) := cell_at hz
      have p1 : w1.cell? ⟨X, 1, none⟩ = some (.int .u32 x.idx) := cell_at hz
      have p2 : w1.cell? ⟨X, 2, none⟩ = some (.int .u32 x.seq) := cell_at hz
      have p3 : w1.cell? ⟨X, 3, none⟩ = some (.slice wa l wc) := cell_at hz
      clear hz hb hX c1 x0 x1 x2 x3 HTB
      go_upto_region 8 with fail
      have hz := heap_alloc_new w1 (.cells #[.string y.id, .int .u32 y.idx, .int .u32 y.seq, .slice wa2 l2 wc2] 66)
      have hb : Below w1.heap.size w1 (w1.alloc (.cells #[.string y.id, .int .u32 y.idx, .int .u32 y.seq, .slice wa2 l2 wc2] 66)) := (Below.refl _ _).alloc (Nat.le_refl _) _
      obtain ⟨Y, hY⟩ : ∃ Y, Y = w1.heap.size := ⟨_, rfl⟩
      rw [← hY] at hz ⊢
      generalize w1.alloc (.cells #[.string y.id, .int .u32 y.idx, .int .u32 y.seq, .slice wa2 l2 wc2] 66) = w2 at *
      replace p0 := below_cells hb _ _ p0
      replace p1 := below_cells hb _ _ p1
      replace p2 := below_cells hb _ _ p2
      replace p3 := below_cells hb _ _ p3
      have HT2 := Lib.hid (HT1.out.next hb)
      have HW := Lib.hid (HW.out.below hb)
      have HW2 := Lib.hid (HW2.out.below hb)
      have q0 : w2.cell? ⟨Y, 0, none⟩ = some (.string y.id) := cell_at hz
      have q1 : w2.cell? ⟨Y, 1, none⟩ = some (.int .u32 y.idx) := cell_at hz
      have q2 : w2.cell? ⟨Y, 2, none⟩ = some (.int .u32 y.seq) := cell_at hz
      have q3 : w2.cell? ⟨Y, 3, none⟩ = some (.slice wa2 l2 wc2) := cell_at hz
      clear hz hb hY d1 y0 y1 y2 y3 HT1
      have hdiff : ∀ (_ : x ≠ y), sameTx t u = false := fun hne => same_no (fun h => ne_at HX.out HY.out hne (by rw [h]))
      have HD := Lib.hid hdiff
      clear hdiff
      by_cases hid1 : x.id = y.id
      rotate_left
      · have hbe := bytes_ne hid1
        have hbe' := bytes_ne' hid1
        have HF := Lib.hid (HD.out (fun h => hid1 (by rw [h])))
        go_wp2_with fail
        go_ret
        exact ⟨ret_bool (by rw [HR.out, HF.out]), HT2.out.bel⟩
      rw [← hid1] at q0
      by_cases hix : x.idx = y.idx
      rotate_left
      · have hne : (x.idx : Int) ≠ y.idx := by omega
        have HF := Lib.hid (HD.out (fun h => hix (by rw [h])))
        go_wp2_with fail
        go_ret
        exact ⟨ret_bool (by rw [HR.out, HF.out]), HT2.out.bel⟩
      rw [← hix] at q1
      by_cases hsq : x.seq = y.seq
      rotate_left
      · have hne : (x.seq : Int) ≠ y.seq := by omega
        have HF := Lib.hid (HD.out (fun h => hsq (by rw [h])))
        go_wp2_with fail
        go_ret
        exact ⟨ret_bool (by rw [HR.out, HF.out]), HT2.out.bel⟩
      rw [← hsq] at q2
      by_cases hll : l = l2
      rotate_left
      · have hne : (l : Int) ≠ l2 := by omega
        have HF := Lib.hid (HD.out (fun h => hll (by rw [HL.out, HL2.out, h])))
        go_wp2_with fail
        go_ret
        exact ⟨ret_bool (by rw [HR.out, HF.out]), HT2.out.bel⟩
      subst hll
      have HE := Lib.hid (show x.wit = y.wit → x = y from fun h => in_same hid1 hix hsq h)
      go_wp2_with fail
      clear hid1 hix hsq
      go_loopg [8] l (fun gq i wr => ∃ (z : Nat), gq = l - z ∧ z ≤ l ∧ i = .int .i64 z ∧ Below w2.heap.size w2 wr ∧ ∀ (j : Nat) (r s : ByteArray), j < z → x.wit[j]? = some r → y.wit[j]? = some s → r = s)
      case atStart => exact ⟨0, rfl, by omega, rfl, Below.refl _ _, fun j r s hj => absurd hj (Nat.not_lt_zero _)⟩
      case round =>
        rename World => wq
        obtain ⟨z, hgz, hz, rfl, hb, hall⟩ := hrel
        have HGZ := Lib.hid hgz
        have HAZ := Lib.hid hall
        have HB := Lib.hid hb
        have r3 := below_cells hb _ _ p3
        have s3 := below_cells hb _ _ q3
        have hw := HW.out.below hb
        have hw2 := HW2.out.below hb
        clear hgz hall hb
        by_cases hzl : z < l
        · obtain ⟨b3, o3, r1, rfl, hr1, hrs, e0⟩ := hw.str hzl
          obtain ⟨b4, o4, s1, rfl, hs1, hss, f0⟩ := hw2.str hzl
          have HR1 := Lib.hid hr1
          have HS1 := Lib.hid hs1
          clear hw hw2 hr1 hs1
          by_cases hrs1 : r1 = s1
          · subst hrs1
            have HNX := Lib.hid (same_step HAZ.out HR1.out HS1.out rfl)
            go_wp2_with fail
            go_quiet (fail)
            have HBZ := Lib.hid (HB.out.trans (show Below w2.heap.size wq (wq.drewN nq) from ⟨rfl, rfl, rfl, Nat.le_refl _, fun _ _ => rfl⟩))
            go_wp2_with fail
            go_roundg (l - (z + 1))
            case measure => have := HGZ.out; omega
            case rel => exact ⟨z + 1, rfl, by omega, by go_num, HBZ.out, HNX.out⟩
          · have hbe := bytes_ne hrs1
            have hbe' := bytes_ne' hrs1
            have HF := Lib.hid (HD.out (fun h => ne_at HR1.out HS1.out hrs1 (by rw [h])))
            go_wp2_with fail
            go_quiet (fail)
            have HBZ := Lib.hid (HT2.out.next (HB.out.trans (show Below w2.heap.size wq (wq.drewN nq) from ⟨rfl, rfl, rfl, Nat.le_refl _, fun _ _ => rfl⟩)))
            go_wp2_with fail
            go_ret
            exact ⟨ret_bool (by rw [HR.out, HF.out]), HBZ.out.bel⟩
        · obtain rfl : z = l := by omega
          have HNX := Lib.hid (same_step HALL.out HX.out HY.out (HE.out (list_same (by rw [← HL.out, ← HL2.out]) (by rw [← HL.out]; exact HAZ.out))))
          have HT3 := Lib.hid (HT2.out.next HB.out)
          go_wp2_with fail
          go_roundg (n - (k + 1))
          case measure => have := HGK.out; omega
          case rel => exact ⟨k + 1, rfl, by omega, by go_num, HT3.out, HNX.out⟩
    · obtain rfl : k = n := by omega
      have HI := Lib.hid (list_same (xs := t.ins) (ys := u.ins) (by rw [← HN.out, ← HM.out]) (by rw [← HN.out]; exact HALL.out))
      clear HALL HGK hlt hk
      go_wp2_with fail
      go_loopg [9] n' (fun gq i wr => ∃ (q : Nat), gq = n' - q ∧ q ≤ n' ∧ i = .int .i64 q ∧ T2 w (.slice a k c) (.slice a' n' c') (.slice e k g) (.slice e' n' g') t u wr ∧ ∀ (j : Nat) (x y : POut), j < q → t.outs[j]? = some x → u.outs[j]? = some y → x = y)
      case atStart => exact ⟨0, rfl, by omega, rfl, HTB.out, fun j x y hj => absurd hj (Nat.not_lt_zero _)⟩
      case round =>
        clear c1 d1 HTB
        rename World => wp
        obtain ⟨q, hgq, hq, rfl, htb, hall⟩ := hrel
        have HGQ := Lib.hid hgq
        have HALL := Lib.hid hall
        have HTB := Lib.hid htb
        have c2 : wp.cell? ⟨w.heap.size, 2, none⟩ = some (.slice a' n' c') := cell_at htb.box1
        have d2 : wp.cell? ⟨w.heap.size + 1, 2, none⟩ = some (.slice e' n' g') := cell_at htb.box2
        clear hgq hall htb
        by_cases hlt : q < n'
        · obtain ⟨b, o, x, rfl, hx, hok, x0, x1⟩ := HTB.out.outs1.outp hlt
          obtain ⟨b2, o2, y, rfl, hy, hok2, y0, y1⟩ := HTB.out.outs2.outp hlt
          have HX := Lib.hid hx
          have HY := Lib.hid hy
          clear hx hy
          have HD := Lib.hid (show x ≠ y → sameTx t u = false from fun hne => same_no (fun h => ne_at HX.out HY.out hne (by rw [h])))
          by_cases hvl : x.val = y.val
          · rw [← hvl] at y0
            by_cases hsc : x.script = y.script
            · rw [← hsc] at y1
              have HNX := Lib.hid (same_step HALL.out HX.out HY.out (out_same hvl hsc))
              go_wp2_with fail
              go_quiet (fail)
              have HTZ := Lib.hid (HTB.out.next (w' := wp.drewN nq) ⟨rfl, rfl, rfl, Nat.le_refl _, fun _ _ => rfl⟩)
              go_wp2_with fail
              go_roundg (n' - (q + 1))
              case measure => have := HGQ.out; omega
              case rel => exact ⟨q + 1, rfl, by omega, by go_num, HTZ.out, HNX.out⟩
            · have hbe := bytes_ne hsc
              have hbe' := bytes_ne' hsc
              have HF := Lib.hid (HD.out (fun h => hsc (by rw [h])))
              go_wp2_with fail
              go_quiet (fail)
              have HTZ := Lib.hid (HTB.out.next (w' := wp.drewN nq) ⟨rfl, rfl, rfl, Nat.le_refl _, fun _ _ => rfl⟩)
              go_wp2_with fail
              go_ret
              exact ⟨ret_bool (by rw [HR.out, HF.out]), HTZ.out.bel⟩
          · have HF := Lib.hid (HD.out (fun h => hvl (by rw [h])))
            go_wp2_with fail
            go_quiet (fail)
            have HTZ := Lib.hid (HTB.out.next (w' := wp.drewN nq) ⟨rfl, rfl, rfl, Nat.le_refl _, fun _ _ => rfl⟩)
            go_wp2_with fail
            go_ret
            exact ⟨ret_bool (by rw [HR.out, HF.out]), HTZ.out.bel⟩
        · obtain rfl : q = n' := by omega
          have HF := Lib.hid (same_yes (tx_same HV.out.1 HI.out (list_same (by rw [← HN'.out, ← HM'.out]) (by rw [← HN'.out]; exact HALL.out)) HV.out.2))
          go_wp2_with fail
          go_ret
          exact ⟨ret_bool (by rw [HR.out, HF.out]), HTB.out.bel⟩
end Go.Proofs.Ytfkcldaogfengaa
end

section
/-
  slices.Clone of strings and of Ins. Conditions: no more than a thousand elements.
-/
namespace Go.Proofs.Ytfkcldaogfengaa
open Go.RowKit Go.BigFrame
set_option linter.unusedVariables false
set_option linter.unusedSimpArgs false

/-- The cells of a slice's elements, wherever they stand. -/
def RowAt (w : World) (v : Value) (n size : Nat) (cells : List Value) : Prop := ∃ a c, v = .slice a n c ∧ n ≤ c ∧ c ≤ maxLen ∧ cells.length = n * size ∧ (a = none → n = 0) ∧ ∀ ad, a = some ad → ∀ j u, cells[j]? = some u → w.cell? (ad.add j) = some u
theorem RowAt.mono {w w' : World} {v : Value} {n size : Nat} {cells : List Value} (h : RowAt w v n size cells) (hw : ∀ p v, w.cell? p = some v → w'.cell? p = some v) : RowAt w' v n size cells := by
  obtain ⟨a, c, h1, h2, h3, h4, h5, h6⟩ := h
  exact ⟨a, c, h1, h2, h3, h4, h5, fun ad e j u hj => hw _ _ (h6 ad e j u hj)⟩
theorem RowAt.below {w w' : World} {v : Value} {n size : Nat} {cells : List Value} (h : RowAt w v n size cells) (hb : Below w.heap.size w w') : RowAt w' v n size cells := h.mono (below_cells hb)
theorem row_of_strs {w : World} {v : Value} {l : List ByteArray} (h : SlAt rpStr w v l) : RowAt w v l.length 1 (strCells l) ∧ okStrs l := by
  obtain ⟨a, c, rfl, h1, h2⟩ := h.shape
  have hat : ∀ j, j < l.length → ∃ (b o : Nat) (x : ByteArray), a = some ⟨b, o, none⟩ ∧ l[j]? = some x ∧ x.size ≤ maxLen ∧ w.cell? ⟨b, o + j, none⟩ = some (.string x) := by
    intro j hj
    obtain ⟨b, o, x, e1, e2, e3, e4⟩ := h.str hj
    exact ⟨b, o, x, e1, e2, e3, e4⟩
  refine ⟨⟨a, c, rfl, h1, h2, by rw [strCells_len, Nat.mul_one], fun e => ?_, fun ad e j u hj => ?_⟩, fun s hs => ?_⟩
  · rcases Nat.eq_zero_or_pos l.length with h0 | h0
    · exact h0
    · obtain ⟨b, o, x, e1, -⟩ := hat 0 h0
      rw [e] at e1
      cases e1
  · have hjl : j < l.length := by have := (List.getElem?_eq_some_iff.1 hj).1; rw [strCells_len] at this; exact this
    obtain ⟨b, o, x, e1, e2, e3, e4⟩ := hat j hjl
    rw [e] at e1
    obtain rfl := Option.some.inj e1
    rw [Addr.add_lit, e4]
    simpa [strCells, e2] using hj
  · obtain ⟨i, hi⟩ := List.mem_iff_getElem?.1 hs
    obtain ⟨b, o, x, e1, e2, e3, e4⟩ := hat i (List.getElem?_eq_some_iff.1 hi).1
    rw [hi] at e2
    obtain rfl := Option.some.inj e2
    exact e3
theorem strs_oneCell (l : List ByteArray) : ∀ u ∈ strCells l, u.oneCell' = true := by
  intro u hu
  unfold strCells at hu
  obtain ⟨x, -, rfl⟩ := List.mem_map.1 hu
  rfl
/-- Ins with the values of their witnesses, which lie anywhere. -/
structure InsSrc (w : World) (v : Value) (ins : List PIn) (ps : List (PIn × Value)) : Prop where
  is : ps.map (·.1) = ins
  row : RowAt w v ps.length 4 (insCells ps)
  wit : ∀ (i : Nat) (p : PIn × Value), ps[i]? = some p → SlAt rpStr w p.2 p.1.wit
  ok : ∀ (i : Nat) (p : PIn × Value), ps[i]? = some p → OkIn p.1
theorem InsSrc.below {w w' : World} {v : Value} {ins : List PIn} {ps : List (PIn × Value)} (h : InsSrc w v ins ps) (hb : Below w.heap.size w w') : InsSrc w' v ins ps :=
  ⟨h.is, h.row.below hb, fun i p hp => (h.wit i p hp).below hb, h.ok⟩
theorem InsSrc.len {w : World} {v : Value} {ins : List PIn} {ps : List (PIn × Value)} (h : InsSrc w v ins ps) : ps.length = ins.length := by rw [← h.is, List.length_map]
theorem InsSrc.one {w : World} {v : Value} {ins : List PIn} {ps : List (PIn × Value)} (h : InsSrc w v ins ps) : ∀ u ∈ insCells ps, u.oneCell' = true := by
  intro u hu
  unfold insCells at hu
  rw [List.mem_flatMap] at hu
  obtain ⟨p, hp, hx⟩ := hu
  obtain ⟨i, hi⟩ := List.mem_iff_getElem?.1 hp
  obtain ⟨a, c, e, -, -⟩ := (h.wit i p hi).shape
  simp only [inRow, List.mem_cons, List.not_mem_nil, or_false] at hx
  rcases hx with rfl | rfl | rfl | rfl
  · rfl
  · rfl
  · rfl
  · rw [e]; rfl
theorem src_of_ins {w : World} {v : Value} {l : List PIn} (h : SlAt rpIn w v l) : ∃ ps, InsSrc w v l ps := by
  obtain ⟨a, c, rfl, h1, h2⟩ := h.shape
  obtain ⟨ps, hpl, hps⟩ := list_of_each (len := l.length) (Q := fun i (p : PIn × Value) => ∃ b o, a = some ⟨b, o, none⟩ ∧ l[i]? = some p.1 ∧ SlAt rpStr w p.2 p.1.wit ∧ OkIn p.1 ∧
      ∀ j u, (inRow p)[j]? = some u → w.cell? ⟨b, o + i * 4 + j, none⟩ = some u) (fun i hi => by
    obtain ⟨b, o, x, wv, e1, e2, e3, e4, e5, e6, d0, d1, d2, d3⟩ := h.inp hi
    refine ⟨(x, wv), b, o, e1, e2, e6, ⟨e5, e4, e3, (row_of_strs e6).2⟩, fun j u hj => ?_⟩
    match j, hj with
    | 0, hj => obtain rfl := Option.some.inj hj; exact d0
    | 1, hj => obtain rfl := Option.some.inj hj; exact d1
    | 2, hj => obtain rfl := Option.some.inj hj; exact d2
    | 3, hj => obtain rfl := Option.some.inj hj; exact d3)
  have hat : ∀ i, i < ps.length → ∃ p, ps[i]? = some p := fun i hi => ⟨_, List.getElem?_eq_getElem hi⟩
  refine ⟨ps, ?_, ⟨a, c, by rw [hpl], by omega, h2, insCells_len ps, fun e => ?_, fun ad e j u hj => ?_⟩, fun i p hp => ?_, fun i p hp => ?_⟩
  · apply List.ext_getElem?
    intro i
    rw [List.getElem?_map]
    rcases Nat.lt_or_ge i ps.length with hi | hi
    · obtain ⟨p, hp⟩ := hat i hi
      obtain ⟨_, _, _, e, _⟩ := hps i p hp
      rw [hp, e]
      rfl
    · rw [List.getElem?_eq_none hi, List.getElem?_eq_none (by omega)]
      rfl
  · rcases Nat.eq_zero_or_pos ps.length with h0 | h0
    · exact h0
    · obtain ⟨p, hp⟩ := hat 0 h0
      obtain ⟨_, _, e1, _⟩ := hps 0 p hp
      rw [e] at e1
      cases e1
  · have hjl : j < ps.length * 4 := by have := (List.getElem?_eq_some_iff.1 hj).1; rw [insCells_len] at this; exact this
    obtain ⟨p, hp⟩ := hat (j / 4) (by omega)
    obtain ⟨b, o, e1, -, -, -, e5⟩ := hps (j / 4) p hp
    rw [e] at e1
    obtain rfl := Option.some.inj e1
    have e2 := flat_at inRow 4 inRow_len ps (j / 4) p hp (j % 4) (Nat.mod_lt _ (by omega))
    rw [show j / 4 * 4 + j % 4 = j by omega] at e2
    unfold insCells at hj
    rw [e2] at hj
    have := e5 (j % 4) u hj
    rw [Addr.add_lit, ← this]
    congr 2
    omega
  · obtain ⟨_, _, _, _, e, _⟩ := hps i p hp
    exact e
  · obtain ⟨_, _, _, _, _, e, _⟩ := hps i p hp
    exact e

theorem two_boxes (w : World) (A B : Array Value) (t : TypeId) : Below w.heap.size w ((w.alloc (.cells A t)).alloc (.cells B t)) ∧ ((w.alloc (.cells A t)).alloc (.cells B t)).heap[w.heap.size]? = some (.cells A t (0, 0)) ∧
    ((w.alloc (.cells A t)).alloc (.cells B t)).heap[w.heap.size + 1]? = some (.cells B t (0, 0)) := by
  have s1 : (w.alloc (.cells A t)).heap.size = w.heap.size + 1 := by simp
  refine ⟨((Below.refl _ _).alloc (Nat.le_refl _) _).alloc (by rw [s1]; omega) _, ?_, ?_⟩
  · rw [Below.heap_alloc _ _ _ (by rw [s1]; omega)]
    exact heap_alloc_new w _
  · rw [← s1]
    exact heap_alloc_new _ _
theorem below_drewN (w : World) : ∀ n, Below w.heap.size w (w.drewN n) := fun n => by
  induction n with
  | zero => exact Below.refl _ _
  | succ n ih => exact ih.drew
/-- A copy in a row of the call's own. -/
def ClIs (e size n : Nat) (cells : List Value) (w : World) (en : Ending) (w' : World) : Prop := ∃ v, en = .returned v ∧ w'.ownsRow w.heap.size e size v n cells ∧ Below w.heap.size w w'
set_option maxRecDepth 100000 in
set_option maxHeartbeats 1000000 in
theorem clStr_row (v : Value) (n : Nat) (cells : List Value) (w : World) (hv : RowAt w v n 1 cells) (hone : ∀ u ∈ cells, u.oneCell' = true) (hlen : n ≤ 1000) : Calls Try.prog 50 #[v] w (ClIs 9 1 n cells w) := by
  obtain ⟨a, c, rfl, hl1, hl2, hcl, hno, hcs⟩ := hv
  rw [maxLen_eq] at hl2
  by_cases hnil : a = none
  · subst hnil
    obtain rfl := hno rfl
    have hc0 : cells = [] := List.eq_nil_of_length_eq_zero (by omega)
    subst hc0
    have HF := Lib.hid (show ClIs 9 1 0 [] w (.returned (.slice none 0 0)) w from ⟨_, rfl, World.ownsRow_nil _ _ _ _, Below.refl _ _⟩)
    have heq : ∀ w : World, (binOp .eql 64 (.slice none 0 c) (.slice none 0 0)).run Try.prog w = .ok (.bool true) w := fun w => by kernel_rfl
    clear hone hcs hcl hno
    go_enter Try.func50, Try.ntmps50
    go_wp2_with fail
    go_ret
    exact HF.out
  · obtain ⟨ad, rfl⟩ := Option.ne_none_iff_exists'.1 hnil
    clear hnil hno
    have heq : ∀ w : World, (binOp .eql 64 (.slice (some ad) n c) (.slice none 0 0)).run Try.prog w = .ok (.bool false) w := fun w => by kernel_rfl
    have hc2 := hcs ad rfl
    obtain ⟨i0, hi, hz0, hz1, hz2⟩ := info_parts info_str
    have hal : Below w.heap.size w (w.alloc (.cells #[] 9)) := (Below.refl _ _).alloc (Nat.le_refl _) _
    have hrow : (w.alloc (.cells #[] 9)).ownsRow w.heap.size 9 1 (.slice (some ⟨w.heap.size, 0, none⟩) 0 0) 0 [] :=
      ⟨rfl, .inr ⟨w.heap.size, 0, #[], rfl, Nat.le_refl _, heap_alloc_new w _, Nat.le_refl _, Nat.zero_le _, rfl, rfl⟩⟩
    obtain ⟨v', w', hrun, hown, hg, -⟩ := append_own_src (P := Try.prog) (w.alloc (.cells #[] 9)) w.heap.size 64 64 64 9 i0 _ 1 16 Try.underlying64 hi hz0 hz1 hz2 rfl _ 0 [] hrow (.slice (some ad) n c) n cells
      (Src.ofSlice _ Try.underlying64 ad n c cells hcl (fun j u h => below_cells hal _ _ (hc2 j u h)) hone) (by rw [maxLen_eq]; omega) (by omega) hal.size
    have HF := Lib.hid (show ClIs 9 1 n cells w (.returned v') w' from by
      refine ⟨_, rfl, ?_, hal.grown hg hal.size (fun k h => by cases h; exact Nat.le_refl _)⟩
      rw [Nat.zero_add, List.nil_append] at hown
      exact hown)
    have HR := Lib.hid hrun
    clear hrun hown hg hrow hal hi hz0 hz1 hz2 hcs hc2 hone hcl
    go_enter Try.func50, Try.ntmps50
    go_wp2_with (at_builtin; refine wpList_append_run rfl (.tmp 5) (.tmp 6) 64 64 rfl rfl rfl HR.out ?_)
    go_ret
    exact HF.out
set_option maxRecDepth 100000 in
set_option maxHeartbeats 1000000 in
theorem clIn_row (v : Value) (n : Nat) (cells : List Value) (w : World) (hv : RowAt w v n 4 cells) (hone : ∀ u ∈ cells, u.oneCell' = true) (hlen : n ≤ 1000) : Calls Try.prog 48 #[v] w (ClIs 66 4 n cells w) := by
  obtain ⟨a, c, rfl, hl1, hl2, hcl, hno, hcs⟩ := hv
  rw [maxLen_eq] at hl2
  by_cases hnil : a = none
  · subst hnil
    obtain rfl := hno rfl
    have hc0 : cells = [] := List.eq_nil_of_length_eq_zero (by omega)
    subst hc0
    have HF := Lib.hid (show ClIs 66 4 0 [] w (.returned (.slice none 0 0)) w from ⟨_, rfl, World.ownsRow_nil _ _ _ _, Below.refl _ _⟩)
    have heq : ∀ w : World, (binOp .eql 38 (.slice none 0 c) (.slice none 0 0)).run Try.prog w = .ok (.bool true) w := fun w => by kernel_rfl
    clear hone hcs hcl hno
    go_enter Try.func48, Try.ntmps48
    go_wp2_with fail
    go_ret
    exact HF.out
  · obtain ⟨ad, rfl⟩ := Option.ne_none_iff_exists'.1 hnil
    clear hnil hno
    have heq : ∀ w : World, (binOp .eql 38 (.slice (some ad) n c) (.slice none 0 0)).run Try.prog w = .ok (.bool false) w := fun w => by kernel_rfl
    have hc2 := hcs ad rfl
    obtain ⟨i0, hi, hz0, hz1, hz2⟩ := info_parts info_in
    have hal : Below w.heap.size w (w.alloc (.cells #[] 66)) := (Below.refl _ _).alloc (Nat.le_refl _) _
    have hrow : (w.alloc (.cells #[] 66)).ownsRow w.heap.size 66 4 (.slice (some ⟨w.heap.size, 0, none⟩) 0 0) 0 [] :=
      ⟨rfl, .inr ⟨w.heap.size, 0, #[], rfl, Nat.le_refl _, heap_alloc_new w _, Nat.le_refl _, Nat.zero_le _, rfl, rfl⟩⟩
    obtain ⟨v', w', hrun, hown, hg, -⟩ := append_own_src (P := Try.prog) (w.alloc (.cells #[] 66)) w.heap.size 38 38 38 66 i0 _ 4 56 Try.underlying38 hi hz0 hz1 hz2 rfl _ 0 [] hrow (.slice (some ad) n c) n cells
      (Src.ofSlice _ Try.underlying38 ad n c cells hcl (fun j u h => below_cells hal _ _ (hc2 j u h)) hone) (by rw [maxLen_eq]; omega) (by omega) hal.size
    have HF := Lib.hid (show ClIs 66 4 n cells w (.returned v') w' from by
      refine ⟨_, rfl, ?_, hal.grown hg hal.size (fun k h => by cases h; exact Nat.le_refl _)⟩
      rw [Nat.zero_add, List.nil_append] at hown
      exact hown)
    have HR := Lib.hid hrun
    clear hrun hown hg hrow hal hi hz0 hz1 hz2 hcs hc2 hone hcl
    go_enter Try.func48, Try.ntmps48
    go_wp2_with (at_builtin; refine wpList_append_run rfl (.tmp 5) (.tmp 6) 38 38 rfl rfl rfl HR.out ?_)
    go_ret
    exact HF.out
end Go.Proofs.Ytfkcldaogfengaa
end

section
/-
  tx.Copy. Conditions: no more than a thousand Ins, Outs, and texts of a Witness.
-/
namespace Go.Proofs.Ytfkcldaogfengaa
open Go.RowKit Go.BigFrame
set_option linter.unusedVariables false
set_option linter.unusedSimpArgs false

/-- Ins of which the witnesses of the first k are the call's own. -/
structure PartIns (base : Nat) (w0 w : World) (v : Value) (ps : List (PIn × Value)) (k : Nat) : Prop where
  row : w.ownsRow base 66 4 v ps.length (insCells ps)
  done : ∀ (i : Nat) (p : PIn × Value), i < k → ps[i]? = some p → w.ownsRow base 9 1 p.2 p.1.wit.length (strCells p.1.wit)
  todo : ∀ (i : Nat) (p : PIn × Value), k ≤ i → ps[i]? = some p → SlAt rpStr w0 p.2 p.1.wit
  ok : ∀ (i : Nat) (p : PIn × Value), ps[i]? = some p → OkIn p.1
  out : ∀ (i : Nat) (p : PIn × Value) (b : Nat), i < k → ps[i]? = some p → p.2.ownBlock = some b → v.ownBlock ≠ some b
  apart : ∀ (i j : Nat) (p q : PIn × Value) (b : Nat), i < k → j < k → ps[i]? = some p → ps[j]? = some q → i ≠ j → p.2.ownBlock = some b → q.2.ownBlock ≠ some b
def PartHas (v : Value) (ps : List (PIn × Value)) (k b : Nat) : Prop := v.ownBlock = some b ∨ ∃ (i : Nat) (p : PIn × Value), i < k ∧ ps[i]? = some p ∧ p.2.ownBlock = some b
theorem PartIns.lt {base : Nat} {w0 w : World} {v : Value} {ps : List (PIn × Value)} {k b : Nat} (h : PartIns base w0 w v ps k) (hb : PartHas v ps k b) : base ≤ b ∧ b < w.heap.size := by
  rcases hb with hb | ⟨i, p, hi, hp, hb⟩
  · exact h.row.lt b hb
  · exact (h.done i p hi hp).lt b hb
theorem PartIns.full {base : Nat} {w0 w : World} {v : Value} {ps : List (PIn × Value)} {k : Nat} (h : PartIns base w0 w v ps k) (hk : ps.length ≤ k) : InsOwn base w v ps := by
  have lt : ∀ (i : Nat) (p : PIn × Value), ps[i]? = some p → i < k := fun i p hp => Nat.lt_of_lt_of_le (List.getElem?_eq_some_iff.1 hp).1 hk
  exact ⟨h.row, fun i p hp => h.done i p (lt i p hp) hp, h.ok, fun i p b hp => h.out i p b (lt i p hp) hp, fun i j p q b hp hq => h.apart i j p q b (lt i p hp) (lt j q hq) hp hq⟩
theorem PartIns.has {v : Value} {ps : List (PIn × Value)} {k b : Nat} (h : InsHas v ps b) (hk : ps.length ≤ k) : PartHas v ps k b := by
  rcases h with h | ⟨i, p, hp, hb⟩
  · exact .inl h
  · exact .inr ⟨i, p, Nat.lt_of_lt_of_le (List.getElem?_eq_some_iff.1 hp).1 hk, hp, hb⟩
theorem PartIns.step {base : Nat} {w0 wq wr : World} {vb n c : Nat} {ps : List (PIn × Value)} {k : Nat} {x : PIn} {wv u : Value} (h : PartIns base w0 wq (.slice (some ⟨vb, 0, none⟩) n c) ps k) (hk : ps[k]? = some (x, wv))
    (hb : Below wq.heap.size wq wr) (hu : wr.ownsRow wq.heap.size 9 1 u x.wit.length (strCells x.wit)) (hbase : base ≤ wq.heap.size) :
    PartIns base w0 (wr.setCell ⟨vb, k * 4 + 3, none⟩ u) (.slice (some ⟨vb, 0, none⟩) n c) (ps.set k (x, u)) (k + 1) := by
  have hkl : k < ps.length := (List.getElem?_eq_some_iff.1 hk).1
  have hvb : vb < wq.heap.size := (h.row.lt vb rfl).2
  have hnl : n = ps.length := by
    obtain ⟨a, c', e, -, -⟩ := ownsRow_shape h.row
    injection e
  have hne : ∀ b, u.ownBlock = some b → b ≠ vb := fun b e e' => by have := (hu.lt b e).1; omega
  have hold : ∀ (i : Nat) (p : PIn × Value), i < k → ps[i]? = some p → ∀ b, p.2.ownBlock = some b → b ≠ vb ∧ b < wq.heap.size := fun i p hi hp b e => ⟨fun e' => h.out i p b hi hp e (by rw [e']; rfl), ((h.done i p hi hp).lt b e).2⟩
  have get : ∀ (i : Nat) (p : PIn × Value), (ps.set k (x, u))[i]? = some p → (i = k ∧ p = (x, u)) ∨ (i ≠ k ∧ ps[i]? = some p) := by
    intro i p hp
    by_cases e : i = k
    · subst e
      rw [List.getElem?_set_self hkl] at hp
      exact .inl ⟨rfl, (Option.some.inj hp).symm⟩
    · rw [List.getElem?_set_ne (fun e' => e e'.symm)] at hp
      exact .inr ⟨e, hp⟩
  refine ⟨?_, ?_, ?_, ?_, ?_, ?_⟩
  · have hx : insCells (ps.set k (x, u)) = (insCells ps).set (k * 4 + 3) u := (flat_set inRow 4 inRow_len ps k (x, wv) (x, u) hk 3 u (by omega) rfl).symm
    rw [hx, List.length_set, ← hnl]
    have hr := h.row
    rw [← hnl] at hr
    exact ownsRow_set (ownsRow_below hr hb) (by rw [insCells_len]; omega) u
  · intro i p hi hp
    rcases get i p hp with ⟨rfl, rfl⟩ | ⟨hik, hp'⟩
    · exact ownsRow_other (ownsRow_base hu hbase) _ _ (fun e => hne _ e rfl)
    · have hi' : i < k := by omega
      exact ownsRow_other (ownsRow_below (h.done i p hi' hp') hb) _ _ (fun e => (hold i p hi' hp' _ e).1 rfl)
  · intro i p hi hp
    rcases get i p hp with ⟨rfl, rfl⟩ | ⟨hik, hp'⟩
    · omega
    · exact h.todo i p (by omega) hp'
  · intro i p hp
    rcases get i p hp with ⟨rfl, rfl⟩ | ⟨hik, hp'⟩
    · show OkIn x
      exact h.ok i (x, wv) hk
    · exact h.ok i p hp'
  · intro i p b hi hp e hv
    rcases get i p hp with ⟨rfl, rfl⟩ | ⟨hik, hp'⟩
    · exact hne b e (Option.some.inj hv).symm
    · exact h.out i p b (by omega) hp' e hv
  · intro i j p q b hi hj hp hq hij e e'
    rcases get i p hp with ⟨rfl, rfl⟩ | ⟨hik, hp'⟩
    · rcases get j q hq with ⟨rfl, rfl⟩ | ⟨hjk, hq'⟩
      · exact hij rfl
      · have := (hold j q (by omega) hq' b e').2
        have := (hu.lt b e).1
        omega
    · rcases get j q hq with ⟨rfl, rfl⟩ | ⟨hjk, hq'⟩
      · have := (hold i p (by omega) hp' b e).2
        have := (hu.lt b e').1
        omega
      · exact h.apart i j p q b (by omega) (by omega) hp' hq' hij e e'

/-- A box of four cells, overwritten. -/
theorem four_cells {w : World} {X : Nat} {u0 u1 u2 u3 : Value} {t : TypeId} (h : w.heap[X]? = some (.cells #[u0, u1, u2, u3] t (0, 0))) (v0 v1 v2 v3 : Value) :
    ((((w.setCell ⟨X, 0, none⟩ v0).setCell ⟨X, 1, none⟩ v1).setCell ⟨X, 2, none⟩ v2).setCell ⟨X, 3, none⟩ v3).heap[X]? = some (.cells #[v0, v1, v2, v3] t (0, 0)) ∧
    (∀ b, b ≠ X → ((((w.setCell ⟨X, 0, none⟩ v0).setCell ⟨X, 1, none⟩ v1).setCell ⟨X, 2, none⟩ v2).setCell ⟨X, 3, none⟩ v3).heap[b]? = w.heap[b]?) ∧
    (∀ B, B ≤ X → Below B w ((((w.setCell ⟨X, 0, none⟩ v0).setCell ⟨X, 1, none⟩ v1).setCell ⟨X, 2, none⟩ v2).setCell ⟨X, 3, none⟩ v3)) := by
  have q1 := heap_setCell_at (j := 0) (u := v0) h
  have q2 := heap_setCell_at (j := 1) (u := v1) q1
  have q3 := heap_setCell_at (j := 2) (u := v2) q2
  have q4 := heap_setCell_at (j := 3) (u := v3) q3
  refine ⟨q4, fun b hb => ?_, fun B hB => ?_⟩
  · rw [Below.heap_setCell _ _ _ _ hb, Below.heap_setCell _ _ _ _ hb, Below.heap_setCell _ _ _ _ hb, Below.heap_setCell _ _ _ _ hb]
  · exact ((((Below.refl B w).setCell (p := ⟨X, 0, none⟩) hB _).setCell (p := ⟨X, 1, none⟩) hB _).setCell (p := ⟨X, 2, none⟩) hB _).setCell (p := ⟨X, 3, none⟩) hB _

/-- The loop's state: the call's box of the transaction, and that of the result. -/
structure CJ (w : World) (t : PTx) (vi vo : Value) (ps : List (PIn × Value)) (k : Nat) (wr : World) : Prop where
  bel : Below w.heap.size w wr
  box : wr.heap[w.heap.size]? = some (.cells #[.int .u32 t.ver, vi, vo, .int .u32 t.lock] 41 (0, 0))
  rbox : wr.heap[w.heap.size + 1]? = some (.cells #[.int .u32 0, .slice none 0 0, .slice none 0 0, .int .u32 0] 41 (0, 0))
  part : PartIns (w.heap.size + 2) w wr vi ps k
  is : ps.map (·.1) = t.ins
  outs : OutsOwn (w.heap.size + 2) wr vo t.outs
  apart : ∀ b, vo.ownBlock = some b → ¬ PartHas vi ps k b
theorem CJ.step {w wq wr : World} {t : PTx} {vb n c : Nat} {vo : Value} {ps : List (PIn × Value)} {k : Nat} {x : PIn} {wv u : Value} (h : CJ w t (.slice (some ⟨vb, 0, none⟩) n c) vo ps k wq) (hk : ps[k]? = some (x, wv))
    (hb : Below wq.heap.size wq wr) (hu : wr.ownsRow wq.heap.size 9 1 u x.wit.length (strCells x.wit)) :
    CJ w t (.slice (some ⟨vb, 0, none⟩) n c) vo (ps.set k (x, u)) (k + 1) (wr.setCell ⟨vb, k * 4 + 3, none⟩ u) := by
  have hr := (Array.getElem?_eq_some_iff.1 h.rbox).1
  have hvb := h.part.row.lt vb rfl
  have hkl : k < ps.length := (List.getElem?_eq_some_iff.1 hk).1
  have hbase : w.heap.size + 2 ≤ wq.heap.size := by omega
  refine ⟨(h.bel.trans (hb.mono h.bel.size)).setCell (p := ⟨vb, k * 4 + 3, none⟩) (by dsimp only; omega) _, ?_, ?_, h.part.step hk hb hu hbase, ?_, ?_, ?_⟩
  · rw [heap_setCell_other _ _ _ _ (by dsimp only; omega), hb.block _ (by omega)]
    exact h.box
  · rw [heap_setCell_other _ _ _ _ (by dsimp only; omega), hb.block _ (by omega)]
    exact h.rbox
  · rw [← h.is, List.map_set]
    apply List.ext_getElem?
    intro i
    by_cases e : k = i
    · subst e
      rw [List.getElem?_set_self (by simpa using hkl), List.getElem?_map, hk]
      rfl
    · rw [List.getElem?_set_ne e]
  · refine (h.outs.below hb).kept fun b e => heap_setCell_other _ _ _ _ (fun e' => ?_)
    dsimp only at e'
    subst e'
    exact h.apart b e (.inl rfl)
  · rintro b e (hv | ⟨i, p, hi, hp, hb'⟩)
    · exact h.apart b e (.inl hv)
    · by_cases hik : i = k
      · subst hik
        rw [List.getElem?_set_self hkl] at hp
        obtain rfl := Option.some.inj hp
        have h1 := (hu.lt b hb').1
        have h2 := (h.outs.row.lt b e).2
        omega
      · rw [List.getElem?_set_ne (fun e' => hik e'.symm)] at hp
        exact h.apart b e (.inr ⟨i, p, by omega, hp, hb'⟩)
theorem CJ.done {w wr : World} {t : PTx} {vi vo : Value} {ps : List (PIn × Value)} {k : Nat} (h : CJ w t vi vo ps k wr) (hk : ps.length ≤ k) (hv : t.ver < 4294967296 ∧ t.lock < 4294967296) :
    TxOwn w.heap.size wr (.agg #[.int .u32 t.ver, vi, vo, .int .u32 t.lock]) t :=
  ⟨⟨vi, vo, ps, rfl, h.is.symm, (h.part.full hk).base (by omega), h.outs.base (by omega), fun b e hh => h.apart b e (PartIns.has hh hk)⟩, hv.1, hv.2⟩

/-- What is known of each operation's value while the lists are copied. -/
def RJ (X base : Nat) (vi vo : Value) (ps : List (PIn × Value)) (l : List POut) : Nat → Fact
  | 0 => .val fun _ => .pointer (some ⟨X, 1, none⟩)
  | 1 => .val fun _ => vi
  | 2 => .own base 66 4 ps.length fun _ => insCells ps
  | 3 => .val fun _ => .pointer (some ⟨X, 2, none⟩)
  | 4 => .val fun _ => vo
  | 5 => .own base 73 2 l.length fun _ => outsCells l
  | 6 => .val fun _ => .pointer (some ⟨X, 1, none⟩)
  | _ => .any
/-- While a witness is copied. -/
def RK (X vb base k : Nat) (vi wv : Value) (l : List ByteArray) : Nat → Fact
  | 0 => .val fun _ => .pointer (some ⟨X, 1, none⟩)
  | 1 => .val fun _ => vi
  | 2 => .val fun _ => .int .i64 k
  | 3 => .val fun _ => .pointer (some ⟨X, 1, none⟩)
  | 4 => .val fun _ => vi
  | 5 => .val fun _ => .int .i64 k
  | 6 => .val fun _ => .pointer (some ⟨vb, k * 4, none⟩)
  | 7 => .val fun _ => .pointer (some ⟨vb, k * 4 + 3, none⟩)
  | 8 => .val fun _ => wv
  | 9 => .own base 9 1 l.length fun _ => strCells l
  | _ => .any
def CopyIs (t : PTx) (w : World) (e : Ending) (w' : World) : Prop := ∃ v, e = .returned v ∧ TxOwn w.heap.size w' v t ∧ Below w.heap.size w w'

set_option maxRecDepth 100000 in
set_option maxHeartbeats 1000000 in
theorem copy_any (v : Value) (t : PTx) (w : World) (hv : TxAt w v t) (hn1 : t.ins.length ≤ 1000) (hn2 : t.outs.length ≤ 1000) (hn3 : ∀ x ∈ t.ins, x.wit.length ≤ 1000) : Calls Try.prog 29 #[v] w (CopyIs t w) := by
  obtain ⟨va, vo, rfl, hia, hob, hver, hlock⟩ := hv
  obtain ⟨a, c, rfl, hl1, hl2⟩ := hia.shape
  obtain ⟨a', c', rfl, hl1', hl2'⟩ := hob.shape
  obtain ⟨ps, hps⟩ := src_of_ins hia
  have hpl := hps.len
  obtain ⟨n, hn⟩ : ∃ n, n = t.ins.length := ⟨_, rfl⟩
  obtain ⟨n', hn'⟩ : ∃ n, n = t.outs.length := ⟨_, rfl⟩
  obtain ⟨hal, hz1, hz2⟩ := two_boxes w #[.int .u32 t.ver, .slice a n c, .slice a' n' c', .int .u32 t.lock] #[.int .u32 0, .slice none 0 0, .slice none 0 0, .int .u32 0] 41
  rw [← hn] at hps hpl hn1 ⊢
  rw [← hn'] at hob hn2 ⊢
  have HV := Lib.hid (And.intro hver hlock)
  have HPS := Lib.hid hps
  have HOB := Lib.hid hob
  have HW3 := Lib.hid hn3
  have HN := Lib.hid (And.intro hn hn')
  have HPL := Lib.hid hpl
  clear hver hlock hps hob hn3 hn hn' hia hl1 hl2 hl1' hl2' hpl
  go_enter Try.func29, Try.ntmps29
  go_upto_region 1 with fail
  generalize (w.alloc (.cells #[.int .u32 t.ver, .slice a n c, .slice a' n' c', .int .u32 t.lock] 41)).alloc (.cells #[.int .u32 0, .slice none 0 0, .slice none 0 0, .int .u32 0] 41) = w0 at *
  have p1 : w0.cell? ⟨w.heap.size, 1, none⟩ = some (.slice a n c) := cell_at hz1
  have p2 : w0.cell? ⟨w.heap.size, 2, none⟩ = some (.slice a' n' c') := cell_at hz1
  have HAL := Lib.hid hal
  have HB1 := Lib.hid hz1
  have HB2 := Lib.hid hz2
  clear hz1 hz2 hal
  refine wp_region_made (RJ w.heap.size w0.heap.size (.slice a n c) (.slice a' n' c') ps t.outs) 7 (by kernel_rfl) (by kernel_rfl) (by kernel_rfl) (by kernel_rfl) (by decide) (by kernel_rfl) ?_ ?_
  · intro i o hi ho L xs lo hi' wr hmd hni hpre
    obtain ⟨x0, x1, x2, x3, x4, x5, x6, rfl⟩ : ∃ x0 x1 x2 x3 x4 x5 x6, xs = [x0, x1, x2, x3, x4, x5, x6] := by match xs, hmd.len with | [x0, x1, x2, x3, x4, x5, x6], _ => exact ⟨_, _, _, _, _, _, _, rfl⟩
    match i, ho with
    | 0, ho =>
      obtain rfl := Option.some.inj ho
      have kk := fun lx ox ax => @step_pure Try.prog (RJ w.heap.size w0.heap.size (.slice a n c) (.slice a' n' c') ps t.outs) lx [x0, x1, x2, x3, x4, x5, x6] ox ax wr 0 (.pointer (some ⟨w.heap.size, 1, none⟩))
      refine kk _ _ _ ?_ ?_
      · kernel_rfl
      · exact rfl
    | 1, ho =>
      obtain rfl := Option.some.inj ho
      have h_0 : x0 = .pointer (some ⟨w.heap.size, 1, none⟩) := hmd.rel 0 (hpre 0 (by kernel_rfl))
      subst h_0
      have z := below_cells hmd.bel _ _ p1
      have kk := fun lx ox ax => @step_pure Try.prog (RJ w.heap.size w0.heap.size (.slice a n c) (.slice a' n' c') ps t.outs) lx [(.pointer (some ⟨w.heap.size, 1, none⟩)), x1, x2, x3, x4, x5, x6] ox ax wr 1 (.slice a n c)
      refine kk _ _ _ ?_ ?_
      · simp [putAll, execOp, go_sem, z]
      · exact rfl
    | 2, ho =>
      obtain rfl := Option.some.inj ho
      have h_1 : x1 = .slice a n c := hmd.rel 1 (hpre 1 (by kernel_rfl))
      subst h_1
      have kk := fun lx ox ax => @step_call Try.prog (RJ w.heap.size w0.heap.size (.slice a n c) (.slice a' n' c') ps t.outs) lx [x0, (.slice a n c), x2, x3, x4, x5, x6] ox ax wr 2 _ _ _ (clIn_row _ _ _ wr ((HPS.out.row.below HAL.out).below hmd.bel) HPS.out.one (by have := HPL.out; omega))
      refine kk _ _ _ ?_ ?_
      · kernel_rfl
      · exact fun e w' ⟨v, he, hown, hb⟩ => ⟨v, he, hb, fun b hb' => hown.lt b hb', ownsRow_base hown hmd.bel.size⟩
    | 3, ho =>
      obtain rfl := Option.some.inj ho
      have kk := fun lx ox ax => @step_pure Try.prog (RJ w.heap.size w0.heap.size (.slice a n c) (.slice a' n' c') ps t.outs) lx [x0, x1, x2, x3, x4, x5, x6] ox ax wr 3 (.pointer (some ⟨w.heap.size, 2, none⟩))
      refine kk _ _ _ ?_ ?_
      · kernel_rfl
      · exact rfl
    | 4, ho =>
      obtain rfl := Option.some.inj ho
      have h_3 : x3 = .pointer (some ⟨w.heap.size, 2, none⟩) := hmd.rel 3 (hpre 3 (by kernel_rfl))
      subst h_3
      have z := below_cells hmd.bel _ _ p2
      have kk := fun lx ox ax => @step_pure Try.prog (RJ w.heap.size w0.heap.size (.slice a n c) (.slice a' n' c') ps t.outs) lx [x0, x1, x2, (.pointer (some ⟨w.heap.size, 2, none⟩)), x4, x5, x6] ox ax wr 4 (.slice a' n' c')
      refine kk _ _ _ ?_ ?_
      · simp [putAll, execOp, go_sem, z]
      · exact rfl
    | 5, ho =>
      obtain rfl := Option.some.inj ho
      have h_4 : x4 = .slice a' n' c' := hmd.rel 4 (hpre 4 (by kernel_rfl))
      subst h_4
      have kk := fun lx ox ax => @step_call Try.prog (RJ w.heap.size w0.heap.size (.slice a n c) (.slice a' n' c') ps t.outs) lx [x0, x1, x2, x3, (.slice a' n' c'), x5, x6] ox ax wr 5 _ _ _ (clOut_any _ _ wr ((HOB.out.below HAL.out).below hmd.bel) (by have := HN.out.2; omega))
      refine kk _ _ _ ?_ ?_
      · kernel_rfl
      · exact fun e w' ⟨v, he, hown, hb⟩ => ⟨v, he, hb, fun b hb' => hown.row.lt b hb', ownsRow_base hown.row hmd.bel.size⟩
    | 6, ho =>
      obtain rfl := Option.some.inj ho
      have kk := fun lx ox ax => @step_pure Try.prog (RJ w.heap.size w0.heap.size (.slice a n c) (.slice a' n' c') ps t.outs) lx [x0, x1, x2, x3, x4, x5, x6] ox ax wr 6 (.pointer (some ⟨w.heap.size, 1, none⟩))
      refine kk _ _ _ ?_ ?_
      · kernel_rfl
      · exact rfl
    | q + 7, ho => omega
  · intro xs lo hi wr hmd
    obtain ⟨x0, x1, x2, x3, x4, x5, x6, rfl⟩ : ∃ x0 x1 x2 x3 x4 x5 x6, xs = [x0, x1, x2, x3, x4, x5, x6] := by match xs, hmd.len with | [x0, x1, x2, x3, x4, x5, x6], _ => exact ⟨_, _, _, _, _, _, _, rfl⟩
    simp only [putAll]
    change wpList _ _ _ (_ :: _ :: _ :: []) _ _
    obtain ⟨h2b, h2⟩ : (∀ b, x2.ownBlock = some b → lo 2 ≤ b ∧ b < hi 2) ∧ wr.ownsRow w0.heap.size 66 4 x2 ps.length (insCells ps) := hmd.rel 2 (by decide)
    obtain ⟨h5b, h5⟩ : (∀ b, x5.ownBlock = some b → lo 5 ≤ b ∧ b < hi 5) ∧ wr.ownsRow w0.heap.size 73 2 x5 t.outs.length (outsCells t.outs) := hmd.rel 5 (by decide)
    have e6 : x6 = .pointer (some ⟨w.heap.size, 1, none⟩) := hmd.rel 6 (by decide)
    subst e6
    obtain ⟨a2, c2, e2, -, -⟩ := ownsRow_shape h2
    obtain ⟨a5, c5, e5, -, -⟩ := ownsRow_shape h5
    have hap := hmd.apart 2 5 (by decide) (by decide) (by decide)
    have hX := (Array.getElem?_eq_some_iff.1 HB2.out).1
    have hb1 : wr.heap[w.heap.size]? = _ := (hmd.bel.block _ (by omega)).trans HB1.out
    have hb2 : wr.heap[w.heap.size + 1]? = _ := (hmd.bel.block _ hX).trans HB2.out
    have f1 : wr.frozen? ⟨w.heap.size, 1, none⟩ = false := free_at hb1
    have z1 : wr.cell? ⟨w.heap.size, 1, none⟩ = some (.slice a n c) := cell_at hb1
    have hbx : (wr.setCell ⟨w.heap.size, 1, none⟩ x2).heap[w.heap.size]? = some (.cells #[.int .u32 t.ver, x2, .slice a' n' c', .int .u32 t.lock] 41 (0, 0)) := heap_setCell_at hb1
    have f2 : (wr.setCell ⟨w.heap.size, 1, none⟩ x2).frozen? ⟨w.heap.size, 2, none⟩ = false := free_at hbx
    have z2 : (wr.setCell ⟨w.heap.size, 1, none⟩ x2).cell? ⟨w.heap.size, 2, none⟩ = some (.slice a' n' c') := cell_at hbx
    have hby : ((wr.setCell ⟨w.heap.size, 1, none⟩ x2).setCell ⟨w.heap.size, 2, none⟩ x5).heap[w.heap.size]? = some (.cells #[.int .u32 t.ver, x2, x5, .int .u32 t.lock] 41 (0, 0)) := heap_setCell_at hbx
    have z3 : ((wr.setCell ⟨w.heap.size, 1, none⟩ x2).setCell ⟨w.heap.size, 2, none⟩ x5).cell? ⟨w.heap.size, 1, none⟩ = some x2 := cell_at hby
    have hcj : CJ w t x2 x5 ps 0 ((wr.setCell ⟨w.heap.size, 1, none⟩ x2).setCell ⟨w.heap.size, 2, none⟩ x5) := by
      have hkeep : ∀ b, w0.heap.size ≤ b → ((wr.setCell ⟨w.heap.size, 1, none⟩ x2).setCell ⟨w.heap.size, 2, none⟩ x5).heap[b]? = wr.heap[b]? := by
        intro b hb
        rw [heap_setCell_other _ _ _ _ (by dsimp only; omega), heap_setCell_other _ _ _ _ (by dsimp only; omega)]
      refine ⟨?_, hby, ?_, ⟨?_, ?_, ?_, HPS.out.ok, ?_, ?_⟩, HPS.out.is, ⟨?_, ?_⟩, ?_⟩
      · exact ((HAL.out.trans (hmd.bel.mono HAL.out.size)).setCell (p := ⟨w.heap.size, 1, none⟩) (Nat.le_refl _) _).setCell (p := ⟨w.heap.size, 2, none⟩) (Nat.le_refl _) _
      · rw [heap_setCell_other _ _ _ _ (by dsimp only; omega), heap_setCell_other _ _ _ _ (by dsimp only; omega)]
        exact hb2
      · exact ownsRow_of_block (ownsRow_base h2 (by omega)) fun b e => hkeep b (h2.lt b e).1
      · intro i p hi
        omega
      · intro i p _ hp
        exact HPS.out.wit i p hp
      · intro i p b hi
        omega
      · intro i j p q b hi
        omega
      · exact ownsRow_of_block (ownsRow_base h5 (by omega)) fun b e => hkeep b (h5.lt b e).1
      · intro x hx
        obtain ⟨i, hi⟩ := List.mem_iff_getElem?.1 hx
        obtain ⟨_, _, y, _, hy, hok, _, _⟩ := HOB.out.outp (i := i) (by rw [HN.out.2]; exact (List.getElem?_eq_some_iff.1 hi).1)
        rw [hi] at hy
        obtain rfl := Option.some.inj hy
        exact hok
      · rintro b e (hv | ⟨i, p, hi, -⟩)
        · have q1 := h2b b hv
          have q2 := h5b b e
          omega
        · omega
    subst e2
    subst e5
    rw [HPL.out, ← HN.out.2] at z3 hcj
    rw [HPL.out] at z2 f2
    have HPL := HPL
    have e2 : ps.length = n := HPL.out
    have e5 : t.outs.length = n' := HN.out.2.symm
    simp only [e2, e5]
    have HCJ := Lib.hid hcj
    clear hcj hby hbx hb1 hb2 hX hap h2b h2 h5b h5 hmd e2 e5 p1 p2 HB1 HB2
    go_wp2_with fail
    clear HOB HPL f1 f2 z1 z2 z3 HAL
    rename_i HPL
    go_loopg [15] n (fun gq i wr => ∃ (k : Nat) (qs : List (PIn × Value)), gq = n - k ∧ k ≤ n ∧ i = .int .i64 k ∧ CJ w t (.slice a2 n c2) (.slice a5 n' c5) qs k wr)
    case atStart => exact ⟨0, ps, rfl, by omega, rfl, HCJ.out⟩
    case round =>
      clear HCJ
      rename World => wq
      obtain ⟨k, qs, hgk, hk, rfl, hcj⟩ := hrel
      have hql : qs.length = n := by rw [HN.out.1, ← hcj.is, List.length_map]
      have HQL := Lib.hid hql
      have HGK := Lib.hid hgk
      have HCJ := Lib.hid hcj
      clear hgk hcj hql
      have z0 : wq.cell? ⟨w.heap.size, 0, none⟩ = some (.int .u32 t.ver) := cell_at HCJ.out.box
      have z1 : wq.cell? ⟨w.heap.size, 1, none⟩ = some (.slice a2 n c2) := cell_at HCJ.out.box
      have z2 : wq.cell? ⟨w.heap.size, 2, none⟩ = some (.slice a5 n' c5) := cell_at HCJ.out.box
      have z3 : wq.cell? ⟨w.heap.size, 3, none⟩ = some (.int .u32 t.lock) := cell_at HCJ.out.box
      by_cases hlt : k < n
      · obtain ⟨⟨x, wv⟩, hp⟩ : ∃ p, qs[k]? = some p := ⟨_, List.getElem?_eq_getElem (by rw [HQL.out]; exact hlt)⟩
        obtain ⟨vb, ha2, -, -⟩ := ownsRow_some (by have h1 := HCJ.out.part.row; rw [HQL.out] at h1; exact h1) (by omega)
        subst ha2
        have hwt := HCJ.out.part.todo k (x, wv) (Nat.le_refl _) hp
        have hx : x ∈ t.ins := by rw [← HCJ.out.is]; exact List.mem_map.2 ⟨(x, wv), List.mem_of_getElem? hp, rfl⟩
        have hcell : wq.cell? ⟨vb, k * 4 + 3, none⟩ = some wv := by
          have := HCJ.out.part.row.cells (g := vb) rfl (k * 4 + 3) _ (flat_at inRow 4 inRow_len qs k (x, wv) hp 3 (by omega))
          simpa [Addr.add_lit] using this
        have hfree : wq.frozen? ⟨vb, k * 4 + 3, none⟩ = false := ownsRow_free HCJ.out.part.row (k * 4 + 3)
        obtain ⟨wa, wc, hwv, -, -⟩ := hwt.shape
        obtain ⟨lw, hlw⟩ : ∃ l, l = x.wit.length := ⟨_, rfl⟩
        rw [← hlw] at hwv
        subst hwv
        have HP := Lib.hid hp
        have HWT := Lib.hid (And.intro hwt (HW3.out x hx))
        have HLW := Lib.hid hlw
        clear hp hwt hx hlw
        have hlo : (0 : Int) ≤ (k : Int) := by omega
        have hhi : (k : Int) < n := by omega
        go_upto_region 5 with fail
        refine wp_region_made (RK w.heap.size vb wq.heap.size k (.slice (some ⟨vb, 0, none⟩) n c2) (.slice wa lw wc) x.wit) 10 (by kernel_rfl) (by kernel_rfl) (by kernel_rfl) (by kernel_rfl) (by decide) (by kernel_rfl) ?_ ?_
        · intro i o hi ho L xs lo hi' wr hmd hni hpre
          obtain ⟨x0, x1, x2, x3, x4, x5, x6, x7, x8, x9, rfl⟩ : ∃ x0 x1 x2 x3 x4 x5 x6 x7 x8 x9, xs = [x0, x1, x2, x3, x4, x5, x6, x7, x8, x9] := by match xs, hmd.len with | [x0, x1, x2, x3, x4, x5, x6, x7, x8, x9], _ => exact ⟨_, _, _, _, _, _, _, _, _, _, rfl⟩
          match i, ho with
          | 0, ho =>
            obtain rfl := Option.some.inj ho
            have kk := fun lx ox ax => @step_pure Try.prog (RK w.heap.size vb wq.heap.size k (.slice (some ⟨vb, 0, none⟩) n c2) (.slice wa lw wc) x.wit) lx [x0, x1, x2, x3, x4, x5, x6, x7, x8, x9] ox ax wr 0 (.pointer (some ⟨w.heap.size, 1, none⟩))
            refine kk _ _ _ ?_ ?_
            · kernel_rfl
            · exact rfl
          | 1, ho =>
            obtain rfl := Option.some.inj ho
            have h_0 : x0 = .pointer (some ⟨w.heap.size, 1, none⟩) := hmd.rel 0 (hpre 0 (by kernel_rfl))
            subst h_0
            have z := below_cells hmd.bel _ _ z1
            have kk := fun lx ox ax => @step_pure Try.prog (RK w.heap.size vb wq.heap.size k (.slice (some ⟨vb, 0, none⟩) n c2) (.slice wa lw wc) x.wit) lx [(.pointer (some ⟨w.heap.size, 1, none⟩)), x1, x2, x3, x4, x5, x6, x7, x8, x9] ox ax wr 1 (.slice (some ⟨vb, 0, none⟩) n c2)
            refine kk _ _ _ ?_ ?_
            · simp [putAll, execOp, go_sem, z]
            · exact rfl
          | 2, ho =>
            obtain rfl := Option.some.inj ho
            have kk := fun lx ox ax => @step_pure Try.prog (RK w.heap.size vb wq.heap.size k (.slice (some ⟨vb, 0, none⟩) n c2) (.slice wa lw wc) x.wit) lx [x0, x1, x2, x3, x4, x5, x6, x7, x8, x9] ox ax wr 2 (.int .i64 k)
            refine kk _ _ _ ?_ ?_
            · kernel_rfl
            · exact rfl
          | 3, ho =>
            obtain rfl := Option.some.inj ho
            have kk := fun lx ox ax => @step_pure Try.prog (RK w.heap.size vb wq.heap.size k (.slice (some ⟨vb, 0, none⟩) n c2) (.slice wa lw wc) x.wit) lx [x0, x1, x2, x3, x4, x5, x6, x7, x8, x9] ox ax wr 3 (.pointer (some ⟨w.heap.size, 1, none⟩))
            refine kk _ _ _ ?_ ?_
            · kernel_rfl
            · exact rfl
          | 4, ho =>
            obtain rfl := Option.some.inj ho
            have h_3 : x3 = .pointer (some ⟨w.heap.size, 1, none⟩) := hmd.rel 3 (hpre 3 (by kernel_rfl))
            subst h_3
            have z := below_cells hmd.bel _ _ z1
            have kk := fun lx ox ax => @step_pure Try.prog (RK w.heap.size vb wq.heap.size k (.slice (some ⟨vb, 0, none⟩) n c2) (.slice wa lw wc) x.wit) lx [x0, x1, x2, (.pointer (some ⟨w.heap.size, 1, none⟩)), x4, x5, x6, x7, x8, x9] ox ax wr 4 (.slice (some ⟨vb, 0, none⟩) n c2)
            refine kk _ _ _ ?_ ?_
            · simp [putAll, execOp, go_sem, z]
            · exact rfl
          | 5, ho =>
            obtain rfl := Option.some.inj ho
            have kk := fun lx ox ax => @step_pure Try.prog (RK w.heap.size vb wq.heap.size k (.slice (some ⟨vb, 0, none⟩) n c2) (.slice wa lw wc) x.wit) lx [x0, x1, x2, x3, x4, x5, x6, x7, x8, x9] ox ax wr 5 (.int .i64 k)
            refine kk _ _ _ ?_ ?_
            · kernel_rfl
            · exact rfl
          | 6, ho =>
            obtain rfl := Option.some.inj ho
            have h_4 : x4 = .slice (some ⟨vb, 0, none⟩) n c2 := hmd.rel 4 (hpre 4 (by kernel_rfl))
            subst h_4
            have h_5 : x5 = .int .i64 k := hmd.rel 5 (hpre 5 (by kernel_rfl))
            subst h_5
            have kk := fun lx ox ax => @step_pure Try.prog (RK w.heap.size vb wq.heap.size k (.slice (some ⟨vb, 0, none⟩) n c2) (.slice wa lw wc) x.wit) lx [x0, x1, x2, x3, (.slice (some ⟨vb, 0, none⟩) n c2), (.int .i64 k), x6, x7, x8, x9] ox ax wr 6 (.pointer (some ⟨vb, k * 4, none⟩))
            refine kk _ _ _ ?_ ?_
            · simp [putAll, execOp, go_sem, hlt, hhi, hlo]
            · exact rfl
          | 7, ho =>
            obtain rfl := Option.some.inj ho
            have h_6 : x6 = .pointer (some ⟨vb, k * 4, none⟩) := hmd.rel 6 (hpre 6 (by kernel_rfl))
            subst h_6
            have kk := fun lx ox ax => @step_pure Try.prog (RK w.heap.size vb wq.heap.size k (.slice (some ⟨vb, 0, none⟩) n c2) (.slice wa lw wc) x.wit) lx [x0, x1, x2, x3, x4, x5, (.pointer (some ⟨vb, k * 4, none⟩)), x7, x8, x9] ox ax wr 7 (.pointer (some ⟨vb, k * 4 + 3, none⟩))
            refine kk _ _ _ ?_ ?_
            · kernel_rfl
            · exact rfl
          | 8, ho =>
            obtain rfl := Option.some.inj ho
            have h_7 : x7 = .pointer (some ⟨vb, k * 4 + 3, none⟩) := hmd.rel 7 (hpre 7 (by kernel_rfl))
            subst h_7
            have z := below_cells hmd.bel _ _ hcell
            have kk := fun lx ox ax => @step_pure Try.prog (RK w.heap.size vb wq.heap.size k (.slice (some ⟨vb, 0, none⟩) n c2) (.slice wa lw wc) x.wit) lx [x0, x1, x2, x3, x4, x5, x6, (.pointer (some ⟨vb, k * 4 + 3, none⟩)), x8, x9] ox ax wr 8 (.slice wa lw wc)
            refine kk _ _ _ ?_ ?_
            · simp [putAll, execOp, go_sem, z]
            · exact rfl
          | 9, ho =>
            obtain rfl := Option.some.inj ho
            have h_8 : x8 = .slice wa lw wc := hmd.rel 8 (hpre 8 (by kernel_rfl))
            subst h_8
            have kk := fun lx ox ax => @step_call Try.prog (RK w.heap.size vb wq.heap.size k (.slice (some ⟨vb, 0, none⟩) n c2) (.slice wa lw wc) x.wit) lx [x0, x1, x2, x3, x4, x5, x6, x7, (.slice wa lw wc), x9] ox ax wr 9 _ _ _ (clStr_row _ _ _ wr (((row_of_strs HWT.out.1).1.below HCJ.out.bel).below hmd.bel) (strs_oneCell _) HWT.out.2)
            refine kk _ _ _ ?_ ?_
            · kernel_rfl
            · exact fun e w' ⟨v, he, hown, hb⟩ => ⟨v, he, hb, fun b hb' => hown.lt b hb', ownsRow_base hown hmd.bel.size⟩
          | q + 10, ho => omega
        · intro xs lo hi wr hmd
          obtain ⟨x0, x1, x2, x3, x4, x5, x6, x7, x8, x9, rfl⟩ : ∃ x0 x1 x2 x3 x4 x5 x6 x7 x8 x9, xs = [x0, x1, x2, x3, x4, x5, x6, x7, x8, x9] := by match xs, hmd.len with | [x0, x1, x2, x3, x4, x5, x6, x7, x8, x9], _ => exact ⟨_, _, _, _, _, _, _, _, _, _, rfl⟩
          simp only [putAll]
          change wpList _ _ _ (_ :: _ :: _ :: []) _ _
          have e1 : x1 = .slice (some ⟨vb, 0, none⟩) n c2 := hmd.rel 1 (by decide)
          have e2 : x2 = .int .i64 k := hmd.rel 2 (by decide)
          subst e1
          subst e2
          obtain ⟨-, h9⟩ : (∀ b, x9.ownBlock = some b → lo 9 ≤ b ∧ b < hi 9) ∧ wr.ownsRow wq.heap.size 9 1 x9 x.wit.length (strCells x.wit) := hmd.rel 9 (by decide)
          have HST := Lib.hid (HCJ.out.step HP.out hmd.bel h9)
          have hcell2 := below_cells hmd.bel _ _ hcell
          have hfree2 : wr.frozen? ⟨vb, k * 4 + 3, none⟩ = false := by
            have h1 := HCJ.out.part.row
            exact ownsRow_free (ownsRow_below h1 hmd.bel) (k * 4 + 3)
          obtain ⟨a9, c9, e9, -, -⟩ := ownsRow_shape h9
          obtain ⟨n9, hn9⟩ : ∃ n, n = x.wit.length := ⟨_, rfl⟩
          rw [← hn9] at e9
          subst e9
          clear hmd h9 hn9 hcell hfree z0 z1 z2 z3
          go_wp2_with fail
          go_roundg (n - (k + 1))
          case measure => have := HGK.out; omega
          case rel => exact ⟨k + 1, _, rfl, by omega, by go_num, HST.out⟩
      · obtain rfl : k = n := by omega
        have r0 : wq.cell? ⟨w.heap.size + 1, 0, none⟩ = some (.int .u32 0) := cell_at HCJ.out.rbox
        have r1 : wq.cell? ⟨w.heap.size + 1, 1, none⟩ = some (.slice none 0 0) := cell_at HCJ.out.rbox
        have r2 : wq.cell? ⟨w.heap.size + 1, 2, none⟩ = some (.slice none 0 0) := cell_at HCJ.out.rbox
        have r3 : wq.cell? ⟨w.heap.size + 1, 3, none⟩ = some (.int .u32 0) := cell_at HCJ.out.rbox
        have f0 : wq.frozen? ⟨w.heap.size + 1, 0, none⟩ = false := free_at HCJ.out.rbox
        have f1 : wq.frozen? ⟨w.heap.size + 1, 1, none⟩ = false := free_at HCJ.out.rbox
        have f2 : wq.frozen? ⟨w.heap.size + 1, 2, none⟩ = false := free_at HCJ.out.rbox
        have f3 : wq.frozen? ⟨w.heap.size + 1, 3, none⟩ = false := free_at HCJ.out.rbox
        obtain ⟨hq, hother, hbelow⟩ := four_cells HCJ.out.rbox (.int .u32 t.ver) (.slice a2 k c2) (.slice a5 n' c5) (.int .u32 t.lock)
        have HQ := Lib.hid hq
        have HO := Lib.hid hother
        have HBW := Lib.hid (hbelow w.heap.size (by omega))
        clear hq hother hbelow
        go_wp2_with fail
        clear z0 z1 z2 z3 r0 r1 r2 r3 f0 f1 f2 f3
        generalize (((wq.setCell ⟨w.heap.size + 1, 0, none⟩ (.int .u32 t.ver)).setCell ⟨w.heap.size + 1, 1, none⟩ (.slice a2 k c2)).setCell ⟨w.heap.size + 1, 2, none⟩ (.slice a5 n' c5)).setCell ⟨w.heap.size + 1, 3, none⟩ (.int .u32 t.lock) = wf at *
        have r0 : wf.cell? ⟨w.heap.size + 1, 0, none⟩ = some (.int .u32 t.ver) := cell_at HQ.out
        have r1 : wf.cell? ⟨w.heap.size + 1, 1, none⟩ = some (.slice a2 k c2) := cell_at HQ.out
        have r2 : wf.cell? ⟨w.heap.size + 1, 2, none⟩ = some (.slice a5 n' c5) := cell_at HQ.out
        have r3 : wf.cell? ⟨w.heap.size + 1, 3, none⟩ = some (.int .u32 t.lock) := cell_at HQ.out
        refine bodyPost_ret (v := .agg #[.int .u32 t.ver, .slice a2 k c2, .slice a5 n' c5, .int .u32 t.lock]) (by simp [results, Try.results29, go_sem, r0, r1, r2, r3]) rfl ⟨_, rfl, ?_, HCJ.out.bel.trans HBW.out⟩
        obtain ⟨⟨vi, vo, rs, e, hp, h1, h2, h3⟩, h4, h5⟩ := HCJ.out.done (Nat.le_of_eq HQL.out) HV.out
        have hbi : InsOwn (w.heap.size + 2) wq (.slice a2 k c2) qs := HCJ.out.part.full (Nat.le_of_eq HQL.out)
        exact ⟨⟨_, _, qs, rfl, HCJ.out.is.symm, (hbi.kept fun b hb => HO.out b (by have := (hbi.lt hb).1; omega)).base (by omega), (HCJ.out.outs.kept fun b hb => HO.out b (by have := (HCJ.out.outs.row.lt b hb).1; omega)).base (by omega), fun b e hh => HCJ.out.apart b e (PartIns.has hh (Nat.le_of_eq HQL.out))⟩, HV.out.1, HV.out.2⟩
end Go.Proofs.Ytfkcldaogfengaa
end
