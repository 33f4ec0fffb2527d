/-
  TxFewer: the plain law. Conditions: those of each theorem.
-/
import Derived.Test.YtjbpaknjiplakaaTxJ
import Derived.Test.YtjbpaknjiplakaaTxX
import Derived.Test.YtjbpaknjiplakaaRegv
namespace Go.Proofs.Ytjbpaknjiplakaa
open Go.RowKit Go.BigFrame
set_option linter.unusedVariables false
set_option linter.unusedSimpArgs false

def cutAt (n m : Nat) (t : PTx) : PTx := ⟨t.ver, t.ins.take n, t.outs.take m, t.lock⟩
def more (i : Nat) (x : PIn) (t : PTx) : PTx := ⟨t.ver, t.ins ++ [x], t.outs, t.lock⟩
structure Whole (t : PTx) : Prop where
  counts : countsOf t = true
  long : longOf t = false
  formed : formedOf t = true
  dup : dup (ptsOf t) = false
  sum : (sumOf t).2 = 0
theorem whole_of {t : PTx} (h : checkOf t = 0) : Whole t := by
  cases h1 : countsOf t
  · rw [check_counts h1] at h; exact absurd h (by decide)
  cases h2 : longOf t
  rotate_left
  · rw [check_long h1 h2] at h; exact absurd h (by decide)
  cases h3 : formedOf t
  · rw [check_form h1 h2 h3] at h; exact absurd h (by decide)
  cases h4 : dup (ptsOf t)
  rotate_left
  · rw [check_dup h1 h2 h3 h4] at h; exact absurd h (by decide)
  rw [check_sum h1 h2 h3 h4] at h
  exact ⟨h1, h2, h3, h4, h⟩
theorem any_take {α : Type} {p : α → Bool} {l : List α} (n : Nat) (h : l.any p = false) : (l.take n).any p = false := by
  rw [List.any_eq_false] at h ⊢
  exact fun x hx => h x (List.mem_of_mem_take hx)
theorem sumA_take : ∀ (l : List Int) (s : Int) (m : Nat), (sumA s l).2 = 0 → (sumA s (l.take m)).2 = 0 ∧ (sumA s (l.take m)).1 ≤ (sumA s l).1
  | [], s, m, h => by simp [sumA]
  | a :: r, s, 0, h => by
    refine ⟨rfl, ?_⟩
    show s ≤ (sumA s (a :: r)).1
    have mono : ∀ (l : List Int) (s : Int), (sumA s l).2 = 0 → s ≤ (sumA s l).1 := by
      intro l
      induction l with
      | nil => intro s _; exact Int.le_refl _
      | cons a r ih =>
        intro s h
        rw [sumA] at h ⊢
        by_cases hg : (goodA a && goodA (s + a)) = true
        · rw [if_pos hg] at h ⊢
          have h1 := ih (s + a) h
          have h2 := (goodA_iff a).1 (Bool.and_eq_true _ _ ▸ hg).1
          omega
        · rw [if_neg hg] at h
          exact absurd h (by decide)
    exact mono _ s h
  | a :: r, s, m + 1, h => by
    rw [List.take_succ_cons]
    rw [sumA] at h ⊢
    rw [sumA]
    by_cases hg : (goodA a && goodA (s + a)) = true
    · rw [if_pos hg] at h ⊢
      rw [if_pos hg]
      exact sumA_take r (s + a) m h
    · rw [if_neg hg] at h
      exact absurd h (by decide)
theorem counts_parts {t : PTx} (h : countsOf t = true) : (1 ≤ t.ins.length ∧ t.ins.length ≤ 256 ∧ 1 ≤ t.outs.length ∧ t.outs.length ≤ 256) ∧ (t.ins.any fun x => decide (4 < x.wit.length)) = false := by
  unfold countsOf at h
  simp only [Bool.and_eq_true, decide_eq_true_eq, Bool.not_eq_true'] at h
  exact ⟨⟨h.1.1.1, h.1.1.2, h.1.2.1, h.1.2.2⟩, h.2⟩
theorem long_parts {t : PTx} (h : longOf t = false) : (t.outs.any fun x => decide (40 < x.script.size)) = false ∧ t.ins.any longIn = false := by
  unfold longOf at h
  exact Bool.or_eq_false_iff.1 h
theorem formed_parts {t : PTx} (h : formedOf t = true) : ∀ x ∈ t.ins, x.id.size = 32 ∧ (isBase x.id x.idx = true → t.ins.length ≤ 1) := by
  intro x hx
  unfold formedOf at h
  have h1 := List.all_eq_true.1 h x hx
  unfold formIn at h1
  simp only [Bool.and_eq_true, decide_eq_true_eq, Bool.not_eq_true', Bool.and_eq_false_iff, decide_eq_false_iff_not] at h1
  refine ⟨h1.1, fun hb => ?_⟩
  rcases h1.2 with h2 | h2
  · rw [hb] at h2; cases h2
  · omega
theorem formed_of {t : PTx} (h : ∀ x ∈ t.ins, x.id.size = 32 ∧ (isBase x.id x.idx = true → t.ins.length ≤ 1)) : formedOf t = true := by
  unfold formedOf
  rw [List.all_eq_true]
  intro x hx
  obtain ⟨h1, h2⟩ := h x hx
  unfold formIn
  rw [decide_eq_true h1, Bool.true_and, Bool.not_eq_true', Bool.and_eq_false_iff]
  cases hb : isBase x.id x.idx
  · exact .inl rfl
  · have := h2 hb
    exact .inr (decide_eq_false (by omega))
theorem dup_nodup {ps : List Pt} (h : dup ps = false) : ps.Nodup := by
  apply Classical.byContradiction
  intro hn
  rw [dup_yes hn] at h
  cases h
theorem fewer_cut {t : PTx} (h : Whole t) {n m : Nat} (hn : 1 ≤ n ∧ n ≤ t.ins.length) (hm : 1 ≤ m ∧ m ≤ t.outs.length) : checkOf (cutAt n m t) = 0 ∧ (sumOf (cutAt n m t)).2 = 0 ∧ (sumOf (cutAt n m t)).1 ≤ (sumOf t).1 := by
  obtain ⟨hc, hw⟩ := counts_parts h.counts
  obtain ⟨hl1, hl2⟩ := long_parts h.long
  have hf := formed_parts h.formed
  have hin : (cutAt n m t).ins = t.ins.take n := rfl
  have hou : (cutAt n m t).outs = t.outs.take m := rfl
  have hln : (t.ins.take n).length = n := by rw [List.length_take]; omega
  have hlm : (t.outs.take m).length = m := by rw [List.length_take]; omega
  have h1 : countsOf (cutAt n m t) = true := counts_of (by rw [hin, hou, hln, hlm]; omega) (by rw [hin]; exact any_take n hw)
  have h2 : longOf (cutAt n m t) = false := by
    unfold longOf
    rw [hin, hou, any_take m hl1, any_take n hl2]
    rfl
  have h3 : formedOf (cutAt n m t) = true := formed_of (fun x hx => by
    rw [hin] at hx ⊢
    have := hf x (List.mem_of_mem_take hx)
    refine ⟨this.1, fun hb => ?_⟩
    have h5 := this.2 hb
    omega)
  have h4 : dup (ptsOf (cutAt n m t)) = false := by
    apply dup_no
    unfold ptsOf
    rw [hin, List.map_take]
    exact (List.take_sublist n _).nodup (dup_nodup h.dup)
  have h5 : (sumOf (cutAt n m t)).2 = 0 ∧ (sumOf (cutAt n m t)).1 ≤ (sumOf t).1 := by
    unfold sumOf
    rw [hou, List.map_take]
    exact sumA_take _ 0 m h.sum
  rw [check_sum h1 h2 h3 h4]
  exact ⟨h5.1, h5⟩
theorem fewer_more {t : PTx} (h : Whole t) {i : Nat} {x : PIn} (hx : t.ins[i]? = some x) (h8 : t.ins.length ≤ 8) : checkOf (more i x t) = 7 ∨ (checkOf (more i x t) = 4 ∧ baseOf t = true) := by
  obtain ⟨hc, hw⟩ := counts_parts h.counts
  obtain ⟨hl1, hl2⟩ := long_parts h.long
  have hf := formed_parts h.formed
  have hxm := List.mem_of_getElem? hx
  have hin : (more i x t).ins = t.ins ++ [x] := rfl
  have hou : (more i x t).outs = t.outs := rfl
  have hln : (t.ins ++ [x]).length = t.ins.length + 1 := by simp
  have any1 : ∀ {p : PIn → Bool}, t.ins.any p = false → (t.ins ++ [x]).any p = false := by
    intro p hp
    rw [List.any_append, hp, List.any_cons, List.any_nil]
    have := List.any_eq_false.1 hp x hxm
    simpa using this
  have h1 : countsOf (more i x t) = true := counts_of (by rw [hin, hou, hln]; omega) (by rw [hin]; exact any1 hw)
  have h2 : longOf (more i x t) = false := by
    unfold longOf
    rw [hin, hou, hl1, any1 hl2]
    rfl
  by_cases hb : ∃ y ∈ t.ins, isBase y.id y.idx = true
  · obtain ⟨y, hy, hyb⟩ := hb
    have hone := (hf y hy).2 hyb
    have h3 : formedOf (more i x t) = false := by
      cases hq : formedOf (more i x t)
      · rfl
      · have h6 := formed_parts hq y (by rw [hin]; exact List.mem_append_left _ hy)
        have h7 := h6.2 hyb
        rw [hin, hln] at h7
        omega
    rw [check_form h1 h2 h3]
    refine .inr ⟨rfl, ?_⟩
    have hl : t.ins.length = 1 := by omega
    obtain ⟨j, hj⟩ := List.mem_iff_getElem?.1 hy
    have hj0 : j = 0 := by have := (List.getElem?_eq_some_iff.1 hj).1; omega
    subst hj0
    rw [baseOf_one hl hj]
    exact hyb
  · have h3 : formedOf (more i x t) = true := formed_of (fun y hy => by
      rw [hin] at hy
      have hy' : y ∈ t.ins := by
        rcases List.mem_append.1 hy with h | h
        · exact h
        · rw [List.mem_singleton] at h; rw [h]; exact hxm
      exact ⟨(hf y hy').1, fun hyb => absurd ⟨y, hy', hyb⟩ hb⟩)
    have h4 : dup (ptsOf (more i x t)) = true := by
      apply dup_yes
      unfold ptsOf
      rw [hin, List.map_append]
      intro hnd
      rw [List.nodup_append] at hnd
      exact hnd.2.2 (x.id, x.idx) (List.mem_map.2 ⟨x, hxm, rfl⟩) (x.id, x.idx) (by simp) rfl
    rw [check_dup h1 h2 h3 h4]
    exact .inl rfl
/-- A row of Ins whose witnesses lie anywhere, as data. -/
theorem ins_sl {base : Nat} {w : World} {v : Value} {ps : List (PIn × Value)} (h : w.ownsRow base 43 4 v ps.length (insCells ps)) (hw : ∀ (i : Nat) (p : PIn × Value), ps[i]? = some p → SlAt rpStr w p.2 p.1.wit) (hok : ∀ (i : Nat) (p : PIn × Value), ps[i]? = some p → OkIn p.1) : SlAt rpIn w v (ps.map (·.1)) := by
  obtain ⟨a, c, rfl, h1, h2⟩ := ownsRow_shape h
  refine ⟨a, c, by simp, by simpa using h1, h2, fun i x hi => ?_⟩
  rw [List.getElem?_map] at hi
  obtain ⟨p, hp, rfl⟩ := Option.map_eq_some_iff.1 hi
  obtain ⟨b, rfl, hb, -⟩ := ownsRow_some h (by have := (List.getElem?_eq_some_iff.1 hp).1; omega)
  have get : ∀ j u, j < 4 → (inRow p)[j]? = some u → w.cell? ⟨b, i * 4 + j, none⟩ = some u := by
    intro j u hj hu
    have e := flat_at inRow 4 inRow_len ps i p hp j hj
    have := h.cells (g := b) rfl (i * 4 + j) u (by unfold insCells; rw [e]; exact hu)
    simpa [Addr.add_lit] using this
  refine ⟨b, 0, [.string p.1.id, .int .u32 p.1.idx, .int .u32 p.1.seq, p.2], rfl, rfl, fun j u hj => ?_, p.2, rfl, hw i p hp, (hok i p hp).id, (hok i p hp).idx, (hok i p hp).seq⟩
  rw [show 0 + i * rpIn.size + j = i * 4 + j by simp [rpIn]]
  exact get j u (by have := (List.getElem?_eq_some_iff.1 hj).1; simpa using this) hj
/-- An In of the list once more behind it. -/
theorem app_more {wr : World} {base i b9 A : Nat} {vi wv : Value} {x : PIn} {ps : List (PIn × Value)} (hps : InsOwn base wr vi ps) (hn : ps.length ≤ 260) (hbase : base ≤ wr.heap.size) (hx : ps[i]? = some (x, wv))
    (hcell : wr.heap[b9]? = some (.cells #[.string x.id, .int .u32 x.idx, .int .u32 x.seq, wv] 43 (0, 0))) (hA : A < wr.heap.size) (hA2 : ¬ InsHas vi ps A) :
    ∃ v' w', (Builtin.append_ #[23, 23] 23 #[vi, .slice (some ⟨b9, 0, none⟩) 1 1]).run Try.prog wr = .ok v' w' ∧ (∀ w'', (∀ b, b ≠ A → w''.heap[b]? = w'.heap[b]?) → SlAt rpIn w'' v' (ps.map (·.1) ++ [x])) ∧ (∃ a n c, v' = .slice a n c) ∧ Below base wr w' ∧ ∀ b, b < wr.heap.size → vi.ownBlock ≠ some b → w'.heap[b]? = wr.heap[b]? := by
  obtain ⟨i0, hi0, hz0, hz1, hz2⟩ := info_parts info_in
  obtain ⟨a, c, hwv, -, -⟩ := ownsRow_shape (hps.wit i _ hx)
  have hsrc : Src Try.prog 4 23 (.slice (some ⟨b9, 0, none⟩) 1 1) 1 (inRow (x, wv)) wr := by
    refine Src.ofSlice _ Try.underlying23 ⟨b9, 0, none⟩ 1 1 _ rfl (fun j u hj => ?_) (fun u hu => ?_)
    · rw [Addr.add_lit, Nat.zero_add, cell_at hcell]
      have h := hj
      unfold inRow at h
      simpa using h
    · simp only [inRow, List.mem_cons, List.not_mem_nil, or_false] at hu
      dsimp only at hwv
      rcases hu with rfl | rfl | rfl | rfl
      · rfl
      · rfl
      · rfl
      · rw [hwv]; rfl
  obtain ⟨v', w', hrun, hown, hg, hv⟩ := append_own_src (P := Try.prog) wr base 23 23 23 43 i0 _ 4 56 Try.underlying23 hi0 hz0 hz1 hz2 rfl vi ps.length (insCells ps) hps.row _ 1 _ hsrc (by rw [maxLen_eq]; omega) (by omega) hbase
  have hkeep : ∀ b, b < wr.heap.size → vi.ownBlock ≠ some b → w'.heap[b]? = wr.heap[b]? := fun b hb hne => hg.block b hb (fun e => hne e.symm)
  have hc : insCells (ps ++ [(x, wv)]) = insCells ps ++ inRow (x, wv) := by simp [insCells]
  have hrow : w'.ownsRow base 43 4 v' (ps ++ [(x, wv)]).length (insCells (ps ++ [(x, wv)])) := by
    rw [hc, List.length_append]
    exact hown
  refine ⟨v', w', hrun, fun w'' hw => ?_, (by obtain ⟨a, c, e, -, -⟩ := ownsRow_shape hrow; exact ⟨a, _, c, e⟩), (Below.refl _ _).grown hg hbase (fun k h => (hps.row.lt k h).1), hkeep⟩
  have hrow : w''.ownsRow base 43 4 v' (ps ++ [(x, wv)]).length (insCells (ps ++ [(x, wv)])) := ownsRow_of_block hrow fun b e => hw b fun e' => by
    subst e'
    rcases hv with h | h
    · exact hA2 (.inl (h ▸ e))
    · have := Option.some.inj (e.symm.trans h)
      omega
  have hone : ∀ (j : Nat) (p : PIn × Value), (ps ++ [(x, wv)])[j]? = some p → ∃ k : Nat, ps[k]? = some p := by
    intro j p hp
    rw [List.getElem?_append] at hp
    split at hp
    · exact ⟨j, hp⟩
    · have : p = (x, wv) := by
        rcases Nat.eq_zero_or_pos (j - ps.length) with h | h
        · rw [h] at hp; exact (Option.some.inj hp).symm
        · rw [List.getElem?_eq_none (by simp; omega)] at hp; cases hp
      exact ⟨i, this ▸ hx⟩
  have hsl := ins_sl hrow (fun j p hp => by
    obtain ⟨k, hk⟩ := hone j p hp
    have h1 := hps.wit k p hk
    exact SlAt.of_strs (ownsRow_of_block h1 fun b e => (hw b (fun e' => hA2 (.inr ⟨k, p, hk, e' ▸ e⟩))).trans (hkeep b (h1.lt b e).2 (hps.out k p b hk e))) rfl (hps.ok k p hk).wit) (fun j p hp => by
    obtain ⟨k, hk⟩ := hone j p hp
    exact hps.ok k p hk)
  rw [List.map_append] at hsl
  exact hsl
end Go.Proofs.Ytjbpaknjiplakaa
