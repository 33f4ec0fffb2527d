/-
  tx.Copy. Conditions: no more than a thousand Ins, Outs, and texts of a Witness.
-/
import Derived.Test.YtelindgnkpfkiaaGreatDoorTxD
import Derived.Test.YtelindgnkpfkiaaGreatDoorQ4CheckFeesCard
namespace Go.Proofs.YtelindgnkpfkiaaGreatDoor
open Go.RowKit Go.BigFrame
set_option linter.unusedVariables false
set_option linter.unusedSimpArgs false

/-- Ins of which the witnesses of the first k are the call's own. -/
structure PartIns (base : Nat) (w0 w : World) (v : Value) (ps : List (PIn × Value)) (k : Nat) : Prop where
  row : w.ownsRow base 56 4 v ps.length (insCells ps)
  done : ∀ (i : Nat) (p : PIn × Value), i < k → ps[i]? = some p → w.ownsRow base 9 1 p.2 p.1.wit.length (strCells p.1.wit)
  todo : ∀ (i : Nat) (p : PIn × Value), k ≤ i → ps[i]? = some p → SlAt rpStr w0 p.2 p.1.wit
  ok : ∀ (i : Nat) (p : PIn × Value), ps[i]? = some p → OkIn p.1
  out : ∀ (i : Nat) (p : PIn × Value) (b : Nat), i < k → ps[i]? = some p → p.2.ownBlock = some b → v.ownBlock ≠ some b
  apart : ∀ (i j : Nat) (p q : PIn × Value) (b : Nat), i < k → j < k → ps[i]? = some p → ps[j]? = some q → i ≠ j → p.2.ownBlock = some b → q.2.ownBlock ≠ some b
def PartHas (v : Value) (ps : List (PIn × Value)) (k b : Nat) : Prop := v.ownBlock = some b ∨ ∃ (i : Nat) (p : PIn × Value), i < k ∧ ps[i]? = some p ∧ p.2.ownBlock = some b
theorem PartIns.lt {base : Nat} {w0 w : World} {v : Value} {ps : List (PIn × Value)} {k b : Nat} (h : PartIns base w0 w v ps k) (hb : PartHas v ps k b) : base ≤ b ∧ b < w.heap.size := by
  rcases hb with hb | ⟨i, p, hi, hp, hb⟩
  · exact h.row.lt b hb
  · exact (h.done i p hi hp).lt b hb
theorem PartIns.full {base : Nat} {w0 w : World} {v : Value} {ps : List (PIn × Value)} {k : Nat} (h : PartIns base w0 w v ps k) (hk : ps.length ≤ k) : InsOwn base w v ps := by
  have lt : ∀ (i : Nat) (p : PIn × Value), ps[i]? = some p → i < k := fun i p hp => Nat.lt_of_lt_of_le (List.getElem?_eq_some_iff.1 hp).1 hk
  exact ⟨h.row, fun i p hp => h.done i p (lt i p hp) hp, h.ok, fun i p b hp => h.out i p b (lt i p hp) hp, fun i j p q b hp hq => h.apart i j p q b (lt i p hp) (lt j q hq) hp hq⟩
theorem PartIns.has {v : Value} {ps : List (PIn × Value)} {k b : Nat} (h : InsHas v ps b) (hk : ps.length ≤ k) : PartHas v ps k b := by
  rcases h with h | ⟨i, p, hp, hb⟩
  · exact .inl h
  · exact .inr ⟨i, p, Nat.lt_of_lt_of_le (List.getElem?_eq_some_iff.1 hp).1 hk, hp, hb⟩
theorem PartIns.step {base : Nat} {w0 wq wr : World} {vb n c : Nat} {ps : List (PIn × Value)} {k : Nat} {x : PIn} {wv u : Value} (h : PartIns base w0 wq (.slice (some ⟨vb, 0, none⟩) n c) ps k) (hk : ps[k]? = some (x, wv))
    (hb : Below wq.heap.size wq wr) (hu : wr.ownsRow wq.heap.size 9 1 u x.wit.length (strCells x.wit)) (hbase : base ≤ wq.heap.size) :
    PartIns base w0 (wr.setCell ⟨vb, k * 4 + 3, none⟩ u) (.slice (some ⟨vb, 0, none⟩) n c) (ps.set k (x, u)) (k + 1) := by
  have hkl : k < ps.length := (List.getElem?_eq_some_iff.1 hk).1
  have hvb : vb < wq.heap.size := (h.row.lt vb rfl).2
  have hnl : n = ps.length := by
    obtain ⟨a, c', e, -, -⟩ := ownsRow_shape h.row
    injection e
  have hne : ∀ b, u.ownBlock = some b → b ≠ vb := fun b e e' => by have := (hu.lt b e).1; omega
  have hold : ∀ (i : Nat) (p : PIn × Value), i < k → ps[i]? = some p → ∀ b, p.2.ownBlock = some b → b ≠ vb ∧ b < wq.heap.size := fun i p hi hp b e => ⟨fun e' => h.out i p b hi hp e (by rw [e']; rfl), ((h.done i p hi hp).lt b e).2⟩
  have get : ∀ (i : Nat) (p : PIn × Value), (ps.set k (x, u))[i]? = some p → (i = k ∧ p = (x, u)) ∨ (i ≠ k ∧ ps[i]? = some p) := by
    intro i p hp
    by_cases e : i = k
    · subst e
      rw [List.getElem?_set_self hkl] at hp
      exact .inl ⟨rfl, (Option.some.inj hp).symm⟩
    · rw [List.getElem?_set_ne (fun e' => e e'.symm)] at hp
      exact .inr ⟨e, hp⟩
  refine ⟨?_, ?_, ?_, ?_, ?_, ?_⟩
  · have hx : insCells (ps.set k (x, u)) = (insCells ps).set (k * 4 + 3) u := (flat_set inRow 4 inRow_len ps k (x, wv) (x, u) hk 3 u (by omega) rfl).symm
    rw [hx, List.length_set, ← hnl]
    have hr := h.row
    rw [← hnl] at hr
    exact ownsRow_set (ownsRow_below hr hb) (by rw [insCells_len]; omega) u
  · intro i p hi hp
    rcases get i p hp with ⟨rfl, rfl⟩ | ⟨hik, hp'⟩
    · exact ownsRow_other (ownsRow_base hu hbase) _ _ (fun e => hne _ e rfl)
    · have hi' : i < k := by omega
      exact ownsRow_other (ownsRow_below (h.done i p hi' hp') hb) _ _ (fun e => (hold i p hi' hp' _ e).1 rfl)
  · intro i p hi hp
    rcases get i p hp with ⟨rfl, rfl⟩ | ⟨hik, hp'⟩
    · omega
    · exact h.todo i p (by omega) hp'
  · intro i p hp
    rcases get i p hp with ⟨rfl, rfl⟩ | ⟨hik, hp'⟩
    · show OkIn x
      exact h.ok i (x, wv) hk
    · exact h.ok i p hp'
  · intro i p b hi hp e hv
    rcases get i p hp with ⟨rfl, rfl⟩ | ⟨hik, hp'⟩
    · exact hne b e (Option.some.inj hv).symm
    · exact h.out i p b (by omega) hp' e hv
  · intro i j p q b hi hj hp hq hij e e'
    rcases get i p hp with ⟨rfl, rfl⟩ | ⟨hik, hp'⟩
    · rcases get j q hq with ⟨rfl, rfl⟩ | ⟨hjk, hq'⟩
      · exact hij rfl
      · have := (hold j q (by omega) hq' b e').2
        have := (hu.lt b e).1
        omega
    · rcases get j q hq with ⟨rfl, rfl⟩ | ⟨hjk, hq'⟩
      · have := (hold i p (by omega) hp' b e).2
        have := (hu.lt b e').1
        omega
      · exact h.apart i j p q b (by omega) (by omega) hp' hq' hij e e'

/-- A box of four cells, overwritten. -/
theorem four_cells {w : World} {X : Nat} {u0 u1 u2 u3 : Value} {t : TypeId} (h : w.heap[X]? = some (.cells #[u0, u1, u2, u3] t (0, 0))) (v0 v1 v2 v3 : Value) :
    ((((w.setCell ⟨X, 0, none⟩ v0).setCell ⟨X, 1, none⟩ v1).setCell ⟨X, 2, none⟩ v2).setCell ⟨X, 3, none⟩ v3).heap[X]? = some (.cells #[v0, v1, v2, v3] t (0, 0)) ∧
    (∀ b, b ≠ X → ((((w.setCell ⟨X, 0, none⟩ v0).setCell ⟨X, 1, none⟩ v1).setCell ⟨X, 2, none⟩ v2).setCell ⟨X, 3, none⟩ v3).heap[b]? = w.heap[b]?) ∧
    (∀ B, B ≤ X → Below B w ((((w.setCell ⟨X, 0, none⟩ v0).setCell ⟨X, 1, none⟩ v1).setCell ⟨X, 2, none⟩ v2).setCell ⟨X, 3, none⟩ v3)) := by
  have q1 := heap_setCell_at (j := 0) (u := v0) h
  have q2 := heap_setCell_at (j := 1) (u := v1) q1
  have q3 := heap_setCell_at (j := 2) (u := v2) q2
  have q4 := heap_setCell_at (j := 3) (u := v3) q3
  refine ⟨q4, fun b hb => ?_, fun B hB => ?_⟩
  · rw [Below.heap_setCell _ _ _ _ hb, Below.heap_setCell _ _ _ _ hb, Below.heap_setCell _ _ _ _ hb, Below.heap_setCell _ _ _ _ hb]
  · exact ((((Below.refl B w).setCell (p := ⟨X, 0, none⟩) hB _).setCell (p := ⟨X, 1, none⟩) hB _).setCell (p := ⟨X, 2, none⟩) hB _).setCell (p := ⟨X, 3, none⟩) hB _

/-- The loop's state: the call's box of the transaction, and that of the result. -/
structure CJ (w : World) (t : PTx) (vi vo : Value) (ps : List (PIn × Value)) (k : Nat) (wr : World) : Prop where
  bel : Below w.heap.size w wr
  box : wr.heap[w.heap.size]? = some (.cells #[.int .u32 t.ver, vi, vo, .int .u32 t.lock] 35 (0, 0))
  rbox : wr.heap[w.heap.size + 1]? = some (.cells #[.int .u32 0, .slice none 0 0, .slice none 0 0, .int .u32 0] 35 (0, 0))
  part : PartIns (w.heap.size + 2) w wr vi ps k
  is : ps.map (·.1) = t.ins
  outs : OutsOwn (w.heap.size + 2) wr vo t.outs
  apart : ∀ b, vo.ownBlock = some b → ¬ PartHas vi ps k b
theorem CJ.step {w wq wr : World} {t : PTx} {vb n c : Nat} {vo : Value} {ps : List (PIn × Value)} {k : Nat} {x : PIn} {wv u : Value} (h : CJ w t (.slice (some ⟨vb, 0, none⟩) n c) vo ps k wq) (hk : ps[k]? = some (x, wv))
    (hb : Below wq.heap.size wq wr) (hu : wr.ownsRow wq.heap.size 9 1 u x.wit.length (strCells x.wit)) :
    CJ w t (.slice (some ⟨vb, 0, none⟩) n c) vo (ps.set k (x, u)) (k + 1) (wr.setCell ⟨vb, k * 4 + 3, none⟩ u) := by
  have hr := (Array.getElem?_eq_some_iff.1 h.rbox).1
  have hvb := h.part.row.lt vb rfl
  have hkl : k < ps.length := (List.getElem?_eq_some_iff.1 hk).1
  have hbase : w.heap.size + 2 ≤ wq.heap.size := by omega
  refine ⟨(h.bel.trans (hb.mono h.bel.size)).setCell (p := ⟨vb, k * 4 + 3, none⟩) (by dsimp only; omega) _, ?_, ?_, h.part.step hk hb hu hbase, ?_, ?_, ?_⟩
  · rw [heap_setCell_other _ _ _ _ (by dsimp only; omega), hb.block _ (by omega)]
    exact h.box
  · rw [heap_setCell_other _ _ _ _ (by dsimp only; omega), hb.block _ (by omega)]
    exact h.rbox
  · rw [← h.is, List.map_set]
    apply List.ext_getElem?
    intro i
    by_cases e : k = i
    · subst e
      rw [List.getElem?_set_self (by simpa using hkl), List.getElem?_map, hk]
      rfl
    · rw [List.getElem?_set_ne e]
  · refine (h.outs.below hb).kept fun b e => heap_setCell_other _ _ _ _ (fun e' => ?_)
    dsimp only at e'
    subst e'
    exact h.apart b e (.inl rfl)
  · rintro b e (hv | ⟨i, p, hi, hp, hb'⟩)
    · exact h.apart b e (.inl hv)
    · by_cases hik : i = k
      · subst hik
        rw [List.getElem?_set_self hkl] at hp
        obtain rfl := Option.some.inj hp
        have h1 := (hu.lt b hb').1
        have h2 := (h.outs.row.lt b e).2
        omega
      · rw [List.getElem?_set_ne (fun e' => hik e'.symm)] at hp
        exact h.apart b e (.inr ⟨i, p, by omega, hp, hb'⟩)
theorem CJ.done {w wr : World} {t : PTx} {vi vo : Value} {ps : List (PIn × Value)} {k : Nat} (h : CJ w t vi vo ps k wr) (hk : ps.length ≤ k) (hv : t.ver < 4294967296 ∧ t.lock < 4294967296) :
    TxOwn w.heap.size wr (.agg #[.int .u32 t.ver, vi, vo, .int .u32 t.lock]) t :=
  ⟨⟨vi, vo, ps, rfl, h.is.symm, (h.part.full hk).base (by omega), h.outs.base (by omega), fun b e hh => h.apart b e (PartIns.has hh hk)⟩, hv.1, hv.2⟩

/-- What is known of each operation's value while the lists are copied. -/
def RJ (X base : Nat) (vi vo : Value) (ps : List (PIn × Value)) (l : List POut) : Nat → Fact
  | 0 => .val fun _ => .pointer (some ⟨X, 1, none⟩)
  | 1 => .val fun _ => vi
  | 2 => .own base 56 4 ps.length fun _ => insCells ps
  | 3 => .val fun _ => .pointer (some ⟨X, 2, none⟩)
  | 4 => .val fun _ => vo
  | 5 => .own base 48 2 l.length fun _ => outsCells l
  | 6 => .val fun _ => .pointer (some ⟨X, 1, none⟩)
  | _ => .any
/-- While a witness is copied. -/
def RK (X vb base k : Nat) (vi wv : Value) (l : List ByteArray) : Nat → Fact
  | 0 => .val fun _ => .pointer (some ⟨X, 1, none⟩)
  | 1 => .val fun _ => vi
  | 2 => .val fun _ => .int .i64 k
  | 3 => .val fun _ => .pointer (some ⟨X, 1, none⟩)
  | 4 => .val fun _ => vi
  | 5 => .val fun _ => .int .i64 k
  | 6 => .val fun _ => .pointer (some ⟨vb, k * 4, none⟩)
  | 7 => .val fun _ => .pointer (some ⟨vb, k * 4 + 3, none⟩)
  | 8 => .val fun _ => wv
  | 9 => .own base 9 1 l.length fun _ => strCells l
  | _ => .any
def CopyIs (t : PTx) (w : World) (e : Ending) (w' : World) : Prop := ∃ v, e = .returned v ∧ TxOwn w.heap.size w' v t ∧ Below w.heap.size w w'

set_option maxRecDepth 100000 in
set_option maxHeartbeats 1000000 in
theorem copy_any (v : Value) (t : PTx) (w : World) (hv : TxAt w v t) (hn1 : t.ins.length ≤ 1000) (hn2 : t.outs.length ≤ 1000) (hn3 : ∀ x ∈ t.ins, x.wit.length ≤ 1000) : Calls Tryz.prog 26 #[v] w (CopyIs t w) := by
  obtain ⟨va, vo, rfl, hia, hob, hver, hlock⟩ := hv
  obtain ⟨a, c, rfl, hl1, hl2⟩ := hia.shape
  obtain ⟨a', c', rfl, hl1', hl2'⟩ := hob.shape
  obtain ⟨ps, hps⟩ := src_of_ins hia
  have hpl := hps.len
  obtain ⟨n, hn⟩ : ∃ n, n = t.ins.length := ⟨_, rfl⟩
  obtain ⟨n', hn'⟩ : ∃ n, n = t.outs.length := ⟨_, rfl⟩
  obtain ⟨hal, hz1, hz2⟩ := two_boxes w #[.int .u32 t.ver, .slice a n c, .slice a' n' c', .int .u32 t.lock] #[.int .u32 0, .slice none 0 0, .slice none 0 0, .int .u32 0] 35
  rw [← hn] at hps hpl hn1 ⊢
  rw [← hn'] at hob hn2 ⊢
  have HV := Lib.hid (And.intro hver hlock)
  have HPS := Lib.hid hps
  have HOB := Lib.hid hob
  have HW3 := Lib.hid hn3
  have HN := Lib.hid (And.intro hn hn')
  have HPL := Lib.hid hpl
  clear hver hlock hps hob hn3 hn hn' hia hl1 hl2 hl1' hl2' hpl
  go_enter Tryz.func26, Tryz.ntmps26
  go_upto_region 1 with fail
  generalize (w.alloc (.cells #[.int .u32 t.ver, .slice a n c, .slice a' n' c', .int .u32 t.lock] 35)).alloc (.cells #[.int .u32 0, .slice none 0 0, .slice none 0 0, .int .u32 0] 35) = w0 at *
  have p1 : w0.cell? ⟨w.heap.size, 1, none⟩ = some (.slice a n c) := cell_at hz1
  have p2 : w0.cell? ⟨w.heap.size, 2, none⟩ = some (.slice a' n' c') := cell_at hz1
  have HAL := Lib.hid hal
  have HB1 := Lib.hid hz1
  have HB2 := Lib.hid hz2
  clear hz1 hz2 hal
  refine wp_region_made (RJ w.heap.size w0.heap.size (.slice a n c) (.slice a' n' c') ps t.outs) 7 (by kernel_rfl) (by kernel_rfl) (by kernel_rfl) (by kernel_rfl) (by decide) (by kernel_rfl) ?_ ?_
  · intro i o hi ho L xs lo hi' wr hmd hni hpre
    obtain ⟨x0, x1, x2, x3, x4, x5, x6, rfl⟩ : ∃ x0 x1 x2 x3 x4 x5 x6, xs = [x0, x1, x2, x3, x4, x5, x6] := by match xs, hmd.len with | [x0, x1, x2, x3, x4, x5, x6], _ => exact ⟨_, _, _, _, _, _, _, rfl⟩
    match i, ho with
    | 0, ho =>
      obtain rfl := Option.some.inj ho
      have kk := fun lx ox ax => @step_pure Tryz.prog (RJ w.heap.size w0.heap.size (.slice a n c) (.slice a' n' c') ps t.outs) lx [x0, x1, x2, x3, x4, x5, x6] ox ax wr 0 (.pointer (some ⟨w.heap.size, 1, none⟩))
      refine kk _ _ _ ?_ ?_
      · kernel_rfl
      · exact rfl
    | 1, ho =>
      obtain rfl := Option.some.inj ho
      have h_0 : x0 = .pointer (some ⟨w.heap.size, 1, none⟩) := hmd.rel 0 (hpre 0 (by kernel_rfl))
      subst h_0
      have z := below_cells hmd.bel _ _ p1
      have kk := fun lx ox ax => @step_pure Tryz.prog (RJ w.heap.size w0.heap.size (.slice a n c) (.slice a' n' c') ps t.outs) lx [(.pointer (some ⟨w.heap.size, 1, none⟩)), x1, x2, x3, x4, x5, x6] ox ax wr 1 (.slice a n c)
      refine kk _ _ _ ?_ ?_
      · simp [putAll, execOp, go_sem, z]
      · exact rfl
    | 2, ho =>
      obtain rfl := Option.some.inj ho
      have h_1 : x1 = .slice a n c := hmd.rel 1 (hpre 1 (by kernel_rfl))
      subst h_1
      have kk := fun lx ox ax => @step_call Tryz.prog (RJ w.heap.size w0.heap.size (.slice a n c) (.slice a' n' c') ps t.outs) lx [x0, (.slice a n c), x2, x3, x4, x5, x6] ox ax wr 2 _ _ _ (clIn_row _ _ _ wr ((HPS.out.row.below HAL.out).below hmd.bel) HPS.out.one (by have := HPL.out; omega))
      refine kk _ _ _ ?_ ?_
      · kernel_rfl
      · exact fun e w' ⟨v, he, hown, hb⟩ => ⟨v, he, hb, fun b hb' => hown.lt b hb', ownsRow_base hown hmd.bel.size⟩
    | 3, ho =>
      obtain rfl := Option.some.inj ho
      have kk := fun lx ox ax => @step_pure Tryz.prog (RJ w.heap.size w0.heap.size (.slice a n c) (.slice a' n' c') ps t.outs) lx [x0, x1, x2, x3, x4, x5, x6] ox ax wr 3 (.pointer (some ⟨w.heap.size, 2, none⟩))
      refine kk _ _ _ ?_ ?_
      · kernel_rfl
      · exact rfl
    | 4, ho =>
      obtain rfl := Option.some.inj ho
      have h_3 : x3 = .pointer (some ⟨w.heap.size, 2, none⟩) := hmd.rel 3 (hpre 3 (by kernel_rfl))
      subst h_3
      have z := below_cells hmd.bel _ _ p2
      have kk := fun lx ox ax => @step_pure Tryz.prog (RJ w.heap.size w0.heap.size (.slice a n c) (.slice a' n' c') ps t.outs) lx [x0, x1, x2, (.pointer (some ⟨w.heap.size, 2, none⟩)), x4, x5, x6] ox ax wr 4 (.slice a' n' c')
      refine kk _ _ _ ?_ ?_
      · simp [putAll, execOp, go_sem, z]
      · exact rfl
    | 5, ho =>
      obtain rfl := Option.some.inj ho
      have h_4 : x4 = .slice a' n' c' := hmd.rel 4 (hpre 4 (by kernel_rfl))
      subst h_4
      have kk := fun lx ox ax => @step_call Tryz.prog (RJ w.heap.size w0.heap.size (.slice a n c) (.slice a' n' c') ps t.outs) lx [x0, x1, x2, x3, (.slice a' n' c'), x5, x6] ox ax wr 5 _ _ _ (clOut_any _ _ wr ((HOB.out.below HAL.out).below hmd.bel) (by have := HN.out.2; omega))
      refine kk _ _ _ ?_ ?_
      · kernel_rfl
      · exact fun e w' ⟨v, he, hown, hb⟩ => ⟨v, he, hb, fun b hb' => hown.row.lt b hb', ownsRow_base hown.row hmd.bel.size⟩
    | 6, ho =>
      obtain rfl := Option.some.inj ho
      have kk := fun lx ox ax => @step_pure Tryz.prog (RJ w.heap.size w0.heap.size (.slice a n c) (.slice a' n' c') ps t.outs) lx [x0, x1, x2, x3, x4, x5, x6] ox ax wr 6 (.pointer (some ⟨w.heap.size, 1, none⟩))
      refine kk _ _ _ ?_ ?_
      · kernel_rfl
      · exact rfl
    | q + 7, ho => omega
  · intro xs lo hi wr hmd
    obtain ⟨x0, x1, x2, x3, x4, x5, x6, rfl⟩ : ∃ x0 x1 x2 x3 x4 x5 x6, xs = [x0, x1, x2, x3, x4, x5, x6] := by match xs, hmd.len with | [x0, x1, x2, x3, x4, x5, x6], _ => exact ⟨_, _, _, _, _, _, _, rfl⟩
    simp only [putAll]
    change wpList _ _ _ (_ :: _ :: _ :: []) _ _
    obtain ⟨h2b, h2⟩ : (∀ b, x2.ownBlock = some b → lo 2 ≤ b ∧ b < hi 2) ∧ wr.ownsRow w0.heap.size 56 4 x2 ps.length (insCells ps) := hmd.rel 2 (by decide)
    obtain ⟨h5b, h5⟩ : (∀ b, x5.ownBlock = some b → lo 5 ≤ b ∧ b < hi 5) ∧ wr.ownsRow w0.heap.size 48 2 x5 t.outs.length (outsCells t.outs) := hmd.rel 5 (by decide)
    have e6 : x6 = .pointer (some ⟨w.heap.size, 1, none⟩) := hmd.rel 6 (by decide)
    subst e6
    obtain ⟨a2, c2, e2, -, -⟩ := ownsRow_shape h2
    obtain ⟨a5, c5, e5, -, -⟩ := ownsRow_shape h5
    have hap := hmd.apart 2 5 (by decide) (by decide) (by decide)
    have hX := (Array.getElem?_eq_some_iff.1 HB2.out).1
    have hb1 : wr.heap[w.heap.size]? = _ := (hmd.bel.block _ (by omega)).trans HB1.out
    have hb2 : wr.heap[w.heap.size + 1]? = _ := (hmd.bel.block _ hX).trans HB2.out
    have f1 : wr.frozen? ⟨w.heap.size, 1, none⟩ = false := free_at hb1
    have z1 : wr.cell? ⟨w.heap.size, 1, none⟩ = some (.slice a n c) := cell_at hb1
    have hbx : (wr.setCell ⟨w.heap.size, 1, none⟩ x2).heap[w.heap.size]? = some (.cells #[.int .u32 t.ver, x2, .slice a' n' c', .int .u32 t.lock] 35 (0, 0)) := heap_setCell_at hb1
    have f2 : (wr.setCell ⟨w.heap.size, 1, none⟩ x2).frozen? ⟨w.heap.size, 2, none⟩ = false := free_at hbx
    have z2 : (wr.setCell ⟨w.heap.size, 1, none⟩ x2).cell? ⟨w.heap.size, 2, none⟩ = some (.slice a' n' c') := cell_at hbx
    have hby : ((wr.setCell ⟨w.heap.size, 1, none⟩ x2).setCell ⟨w.heap.size, 2, none⟩ x5).heap[w.heap.size]? = some (.cells #[.int .u32 t.ver, x2, x5, .int .u32 t.lock] 35 (0, 0)) := heap_setCell_at hbx
    have z3 : ((wr.setCell ⟨w.heap.size, 1, none⟩ x2).setCell ⟨w.heap.size, 2, none⟩ x5).cell? ⟨w.heap.size, 1, none⟩ = some x2 := cell_at hby
    have hcj : CJ w t x2 x5 ps 0 ((wr.setCell ⟨w.heap.size, 1, none⟩ x2).setCell ⟨w.heap.size, 2, none⟩ x5) := by
      have hkeep : ∀ b, w0.heap.size ≤ b → ((wr.setCell ⟨w.heap.size, 1, none⟩ x2).setCell ⟨w.heap.size, 2, none⟩ x5).heap[b]? = wr.heap[b]? := by
        intro b hb
        rw [heap_setCell_other _ _ _ _ (by dsimp only; omega), heap_setCell_other _ _ _ _ (by dsimp only; omega)]
      refine ⟨?_, hby, ?_, ⟨?_, ?_, ?_, HPS.out.ok, ?_, ?_⟩, HPS.out.is, ⟨?_, ?_⟩, ?_⟩
      · exact ((HAL.out.trans (hmd.bel.mono HAL.out.size)).setCell (p := ⟨w.heap.size, 1, none⟩) (Nat.le_refl _) _).setCell (p := ⟨w.heap.size, 2, none⟩) (Nat.le_refl _) _
      · rw [heap_setCell_other _ _ _ _ (by dsimp only; omega), heap_setCell_other _ _ _ _ (by dsimp only; omega)]
        exact hb2
      · exact ownsRow_of_block (ownsRow_base h2 (by omega)) fun b e => hkeep b (h2.lt b e).1
      · intro i p hi
        omega
      · intro i p _ hp
        exact HPS.out.wit i p hp
      · intro i p b hi
        omega
      · intro i j p q b hi
        omega
      · exact ownsRow_of_block (ownsRow_base h5 (by omega)) fun b e => hkeep b (h5.lt b e).1
      · intro x hx
        obtain ⟨i, hi⟩ := List.mem_iff_getElem?.1 hx
        obtain ⟨_, _, y, _, hy, hok, _, _⟩ := HOB.out.outp (i := i) (by rw [HN.out.2]; exact (List.getElem?_eq_some_iff.1 hi).1)
        rw [hi] at hy
        obtain rfl := Option.some.inj hy
        exact hok
      · rintro b e (hv | ⟨i, p, hi, -⟩)
        · have q1 := h2b b hv
          have q2 := h5b b e
          omega
        · omega
    subst e2
    subst e5
    rw [HPL.out, ← HN.out.2] at z3 hcj
    rw [HPL.out] at z2 f2
    have HPL := HPL
    have e2 : ps.length = n := HPL.out
    have e5 : t.outs.length = n' := HN.out.2.symm
    simp only [e2, e5]
    have HCJ := Lib.hid hcj
    clear hcj hby hbx hb1 hb2 hX hap h2b h2 h5b h5 hmd e2 e5 p1 p2 HB1 HB2
    go_wp2_with fail
    clear HOB HPL f1 f2 z1 z2 z3 HAL
    rename_i HPL
    go_loopg [15] n (fun gq i wr => ∃ (k : Nat) (qs : List (PIn × Value)), gq = n - k ∧ k ≤ n ∧ i = .int .i64 k ∧ CJ w t (.slice a2 n c2) (.slice a5 n' c5) qs k wr)
    case atStart => exact ⟨0, ps, rfl, by omega, rfl, HCJ.out⟩
    case round =>
      clear HCJ
      rename World => wq
      obtain ⟨k, qs, hgk, hk, rfl, hcj⟩ := hrel
      have hql : qs.length = n := by rw [HN.out.1, ← hcj.is, List.length_map]
      have HQL := Lib.hid hql
      have HGK := Lib.hid hgk
      have HCJ := Lib.hid hcj
      clear hgk hcj hql
      have z0 : wq.cell? ⟨w.heap.size, 0, none⟩ = some (.int .u32 t.ver) := cell_at HCJ.out.box
      have z1 : wq.cell? ⟨w.heap.size, 1, none⟩ = some (.slice a2 n c2) := cell_at HCJ.out.box
      have z2 : wq.cell? ⟨w.heap.size, 2, none⟩ = some (.slice a5 n' c5) := cell_at HCJ.out.box
      have z3 : wq.cell? ⟨w.heap.size, 3, none⟩ = some (.int .u32 t.lock) := cell_at HCJ.out.box
      by_cases hlt : k < n
      · obtain ⟨⟨x, wv⟩, hp⟩ : ∃ p, qs[k]? = some p := ⟨_, List.getElem?_eq_getElem (by rw [HQL.out]; exact hlt)⟩
        obtain ⟨vb, ha2, -, -⟩ := ownsRow_some (by have h1 := HCJ.out.part.row; rw [HQL.out] at h1; exact h1) (by omega)
        subst ha2
        have hwt := HCJ.out.part.todo k (x, wv) (Nat.le_refl _) hp
        have hx : x ∈ t.ins := by rw [← HCJ.out.is]; exact List.mem_map.2 ⟨(x, wv), List.mem_of_getElem? hp, rfl⟩
        have hcell : wq.cell? ⟨vb, k * 4 + 3, none⟩ = some wv := by
          have := HCJ.out.part.row.cells (g := vb) rfl (k * 4 + 3) _ (flat_at inRow 4 inRow_len qs k (x, wv) hp 3 (by omega))
          simpa [Addr.add_lit] using this
        have hfree : wq.frozen? ⟨vb, k * 4 + 3, none⟩ = false := ownsRow_free HCJ.out.part.row (k * 4 + 3)
        obtain ⟨wa, wc, hwv, -, -⟩ := hwt.shape
        obtain ⟨lw, hlw⟩ : ∃ l, l = x.wit.length := ⟨_, rfl⟩
        rw [← hlw] at hwv
        subst hwv
        have HP := Lib.hid hp
        have HWT := Lib.hid (And.intro hwt (HW3.out x hx))
        have HLW := Lib.hid hlw
        clear hp hwt hx hlw
        have hlo : (0 : Int) ≤ (k : Int) := by omega
        have hhi : (k : Int) < n := by omega
        go_upto_region 5 with fail
        refine wp_region_made (RK w.heap.size vb wq.heap.size k (.slice (some ⟨vb, 0, none⟩) n c2) (.slice wa lw wc) x.wit) 10 (by kernel_rfl) (by kernel_rfl) (by kernel_rfl) (by kernel_rfl) (by decide) (by kernel_rfl) ?_ ?_
        · intro i o hi ho L xs lo hi' wr hmd hni hpre
          obtain ⟨x0, x1, x2, x3, x4, x5, x6, x7, x8, x9, rfl⟩ : ∃ x0 x1 x2 x3 x4 x5 x6 x7 x8 x9, xs = [x0, x1, x2, x3, x4, x5, x6, x7, x8, x9] := by match xs, hmd.len with | [x0, x1, x2, x3, x4, x5, x6, x7, x8, x9], _ => exact ⟨_, _, _, _, _, _, _, _, _, _, rfl⟩
          match i, ho with
          | 0, ho =>
            obtain rfl := Option.some.inj ho
            have kk := fun lx ox ax => @step_pure Tryz.prog (RK w.heap.size vb wq.heap.size k (.slice (some ⟨vb, 0, none⟩) n c2) (.slice wa lw wc) x.wit) lx [x0, x1, x2, x3, x4, x5, x6, x7, x8, x9] ox ax wr 0 (.pointer (some ⟨w.heap.size, 1, none⟩))
            refine kk _ _ _ ?_ ?_
            · kernel_rfl
            · exact rfl
          | 1, ho =>
            obtain rfl := Option.some.inj ho
            have h_0 : x0 = .pointer (some ⟨w.heap.size, 1, none⟩) := hmd.rel 0 (hpre 0 (by kernel_rfl))
            subst h_0
            have z := below_cells hmd.bel _ _ z1
            have kk := fun lx ox ax => @step_pure Tryz.prog (RK w.heap.size vb wq.heap.size k (.slice (some ⟨vb, 0, none⟩) n c2) (.slice wa lw wc) x.wit) lx [(.pointer (some ⟨w.heap.size, 1, none⟩)), x1, x2, x3, x4, x5, x6, x7, x8, x9] ox ax wr 1 (.slice (some ⟨vb, 0, none⟩) n c2)
            refine kk _ _ _ ?_ ?_
            · simp [putAll, execOp, go_sem, z]
            · exact rfl
          | 2, ho =>
            obtain rfl := Option.some.inj ho
            have kk := fun lx ox ax => @step_pure Tryz.prog (RK w.heap.size vb wq.heap.size k (.slice (some ⟨vb, 0, none⟩) n c2) (.slice wa lw wc) x.wit) lx [x0, x1, x2, x3, x4, x5, x6, x7, x8, x9] ox ax wr 2 (.int .i64 k)
            refine kk _ _ _ ?_ ?_
            · kernel_rfl
            · exact rfl
          | 3, ho =>
            obtain rfl := Option.some.inj ho
            have kk := fun lx ox ax => @step_pure Tryz.prog (RK w.heap.size vb wq.heap.size k (.slice (some ⟨vb, 0, none⟩) n c2) (.slice wa lw wc) x.wit) lx [x0, x1, x2, x3, x4, x5, x6, x7, x8, x9] ox ax wr 3 (.pointer (some ⟨w.heap.size, 1, none⟩))
            refine kk _ _ _ ?_ ?_
            · kernel_rfl
            · exact rfl
          | 4, ho =>
            obtain rfl := Option.some.inj ho
            have h_3 : x3 = .pointer (some ⟨w.heap.size, 1, none⟩) := hmd.rel 3 (hpre 3 (by kernel_rfl))
            subst h_3
            have z := below_cells hmd.bel _ _ z1
            have kk := fun lx ox ax => @step_pure Tryz.prog (RK w.heap.size vb wq.heap.size k (.slice (some ⟨vb, 0, none⟩) n c2) (.slice wa lw wc) x.wit) lx [x0, x1, x2, (.pointer (some ⟨w.heap.size, 1, none⟩)), x4, x5, x6, x7, x8, x9] ox ax wr 4 (.slice (some ⟨vb, 0, none⟩) n c2)
            refine kk _ _ _ ?_ ?_
            · simp [putAll, execOp, go_sem, z]
            · exact rfl
          | 5, ho =>
            obtain rfl := Option.some.inj ho
            have kk := fun lx ox ax => @step_pure Tryz.prog (RK w.heap.size vb wq.heap.size k (.slice (some ⟨vb, 0, none⟩) n c2) (.slice wa lw wc) x.wit) lx [x0, x1, x2, x3, x4, x5, x6, x7, x8, x9] ox ax wr 5 (.int .i64 k)
            refine kk _ _ _ ?_ ?_
            · kernel_rfl
            · exact rfl
          | 6, ho =>
            obtain rfl := Option.some.inj ho
            have h_4 : x4 = .slice (some ⟨vb, 0, none⟩) n c2 := hmd.rel 4 (hpre 4 (by kernel_rfl))
            subst h_4
            have h_5 : x5 = .int .i64 k := hmd.rel 5 (hpre 5 (by kernel_rfl))
            subst h_5
            have kk := fun lx ox ax => @step_pure Tryz.prog (RK w.heap.size vb wq.heap.size k (.slice (some ⟨vb, 0, none⟩) n c2) (.slice wa lw wc) x.wit) lx [x0, x1, x2, x3, (.slice (some ⟨vb, 0, none⟩) n c2), (.int .i64 k), x6, x7, x8, x9] ox ax wr 6 (.pointer (some ⟨vb, k * 4, none⟩))
            refine kk _ _ _ ?_ ?_
            · simp [putAll, execOp, go_sem, hlt, hhi, hlo]
            · exact rfl
          | 7, ho =>
            obtain rfl := Option.some.inj ho
            have h_6 : x6 = .pointer (some ⟨vb, k * 4, none⟩) := hmd.rel 6 (hpre 6 (by kernel_rfl))
            subst h_6
            have kk := fun lx ox ax => @step_pure Tryz.prog (RK w.heap.size vb wq.heap.size k (.slice (some ⟨vb, 0, none⟩) n c2) (.slice wa lw wc) x.wit) lx [x0, x1, x2, x3, x4, x5, (.pointer (some ⟨vb, k * 4, none⟩)), x7, x8, x9] ox ax wr 7 (.pointer (some ⟨vb, k * 4 + 3, none⟩))
            refine kk _ _ _ ?_ ?_
            · kernel_rfl
            · exact rfl
          | 8, ho =>
            obtain rfl := Option.some.inj ho
            have h_7 : x7 = .pointer (some ⟨vb, k * 4 + 3, none⟩) := hmd.rel 7 (hpre 7 (by kernel_rfl))
            subst h_7
            have z := below_cells hmd.bel _ _ hcell
            have kk := fun lx ox ax => @step_pure Tryz.prog (RK w.heap.size vb wq.heap.size k (.slice (some ⟨vb, 0, none⟩) n c2) (.slice wa lw wc) x.wit) lx [x0, x1, x2, x3, x4, x5, x6, (.pointer (some ⟨vb, k * 4 + 3, none⟩)), x8, x9] ox ax wr 8 (.slice wa lw wc)
            refine kk _ _ _ ?_ ?_
            · simp [putAll, execOp, go_sem, z]
            · exact rfl
          | 9, ho =>
            obtain rfl := Option.some.inj ho
            have h_8 : x8 = .slice wa lw wc := hmd.rel 8 (hpre 8 (by kernel_rfl))
            subst h_8
            have kk := fun lx ox ax => @step_call Tryz.prog (RK w.heap.size vb wq.heap.size k (.slice (some ⟨vb, 0, none⟩) n c2) (.slice wa lw wc) x.wit) lx [x0, x1, x2, x3, x4, x5, x6, x7, (.slice wa lw wc), x9] ox ax wr 9 _ _ _ (clStr_row _ _ _ wr (((row_of_strs HWT.out.1).1.below HCJ.out.bel).below hmd.bel) (strs_oneCell _) HWT.out.2)
            refine kk _ _ _ ?_ ?_
            · kernel_rfl
            · exact fun e w' ⟨v, he, hown, hb⟩ => ⟨v, he, hb, fun b hb' => hown.lt b hb', ownsRow_base hown hmd.bel.size⟩
          | q + 10, ho => omega
        · intro xs lo hi wr hmd
          obtain ⟨x0, x1, x2, x3, x4, x5, x6, x7, x8, x9, rfl⟩ : ∃ x0 x1 x2 x3 x4 x5 x6 x7 x8 x9, xs = [x0, x1, x2, x3, x4, x5, x6, x7, x8, x9] := by match xs, hmd.len with | [x0, x1, x2, x3, x4, x5, x6, x7, x8, x9], _ => exact ⟨_, _, _, _, _, _, _, _, _, _, rfl⟩
          simp only [putAll]
          change wpList _ _ _ (_ :: _ :: _ :: []) _ _
          have e1 : x1 = .slice (some ⟨vb, 0, none⟩) n c2 := hmd.rel 1 (by decide)
          have e2 : x2 = .int .i64 k := hmd.rel 2 (by decide)
          subst e1
          subst e2
          obtain ⟨-, h9⟩ : (∀ b, x9.ownBlock = some b → lo 9 ≤ b ∧ b < hi 9) ∧ wr.ownsRow wq.heap.size 9 1 x9 x.wit.length (strCells x.wit) := hmd.rel 9 (by decide)
          have HST := Lib.hid (HCJ.out.step HP.out hmd.bel h9)
          have hcell2 := below_cells hmd.bel _ _ hcell
          have hfree2 : wr.frozen? ⟨vb, k * 4 + 3, none⟩ = false := by
            have h1 := HCJ.out.part.row
            exact ownsRow_free (ownsRow_below h1 hmd.bel) (k * 4 + 3)
          obtain ⟨a9, c9, e9, -, -⟩ := ownsRow_shape h9
          obtain ⟨n9, hn9⟩ : ∃ n, n = x.wit.length := ⟨_, rfl⟩
          rw [← hn9] at e9
          subst e9
          clear hmd h9 hn9 hcell hfree z0 z1 z2 z3
          go_wp2_with fail
          go_roundg (n - (k + 1))
          case measure => have := HGK.out; omega
          case rel => exact ⟨k + 1, _, rfl, by omega, by go_num, HST.out⟩
      · obtain rfl : k = n := by omega
        have r0 : wq.cell? ⟨w.heap.size + 1, 0, none⟩ = some (.int .u32 0) := cell_at HCJ.out.rbox
        have r1 : wq.cell? ⟨w.heap.size + 1, 1, none⟩ = some (.slice none 0 0) := cell_at HCJ.out.rbox
        have r2 : wq.cell? ⟨w.heap.size + 1, 2, none⟩ = some (.slice none 0 0) := cell_at HCJ.out.rbox
        have r3 : wq.cell? ⟨w.heap.size + 1, 3, none⟩ = some (.int .u32 0) := cell_at HCJ.out.rbox
        have f0 : wq.frozen? ⟨w.heap.size + 1, 0, none⟩ = false := free_at HCJ.out.rbox
        have f1 : wq.frozen? ⟨w.heap.size + 1, 1, none⟩ = false := free_at HCJ.out.rbox
        have f2 : wq.frozen? ⟨w.heap.size + 1, 2, none⟩ = false := free_at HCJ.out.rbox
        have f3 : wq.frozen? ⟨w.heap.size + 1, 3, none⟩ = false := free_at HCJ.out.rbox
        obtain ⟨hq, hother, hbelow⟩ := four_cells HCJ.out.rbox (.int .u32 t.ver) (.slice a2 k c2) (.slice a5 n' c5) (.int .u32 t.lock)
        have HQ := Lib.hid hq
        have HO := Lib.hid hother
        have HBW := Lib.hid (hbelow w.heap.size (by omega))
        clear hq hother hbelow
        go_wp2_with fail
        clear z0 z1 z2 z3 r0 r1 r2 r3 f0 f1 f2 f3
        generalize (((wq.setCell ⟨w.heap.size + 1, 0, none⟩ (.int .u32 t.ver)).setCell ⟨w.heap.size + 1, 1, none⟩ (.slice a2 k c2)).setCell ⟨w.heap.size + 1, 2, none⟩ (.slice a5 n' c5)).setCell ⟨w.heap.size + 1, 3, none⟩ (.int .u32 t.lock) = wf at *
        have r0 : wf.cell? ⟨w.heap.size + 1, 0, none⟩ = some (.int .u32 t.ver) := cell_at HQ.out
        have r1 : wf.cell? ⟨w.heap.size + 1, 1, none⟩ = some (.slice a2 k c2) := cell_at HQ.out
        have r2 : wf.cell? ⟨w.heap.size + 1, 2, none⟩ = some (.slice a5 n' c5) := cell_at HQ.out
        have r3 : wf.cell? ⟨w.heap.size + 1, 3, none⟩ = some (.int .u32 t.lock) := cell_at HQ.out
        refine bodyPost_ret (v := .agg #[.int .u32 t.ver, .slice a2 k c2, .slice a5 n' c5, .int .u32 t.lock]) (by simp [results, Tryz.results26, go_sem, r0, r1, r2, r3]) rfl ⟨_, rfl, ?_, HCJ.out.bel.trans HBW.out⟩
        obtain ⟨⟨vi, vo, rs, e, hp, h1, h2, h3⟩, h4, h5⟩ := HCJ.out.done (Nat.le_of_eq HQL.out) HV.out
        have hbi : InsOwn (w.heap.size + 2) wq (.slice a2 k c2) qs := HCJ.out.part.full (Nat.le_of_eq HQL.out)
        exact ⟨⟨_, _, qs, rfl, HCJ.out.is.symm, (hbi.kept fun b hb => HO.out b (by have := (hbi.lt hb).1; omega)).base (by omega), (HCJ.out.outs.kept fun b hb => HO.out b (by have := (HCJ.out.outs.row.lt b hb).1; omega)).base (by omega), fun b e hh => HCJ.out.apart b e (PartIns.has hh (Nat.le_of_eq HQL.out))⟩, HV.out.1, HV.out.2⟩
end Go.Proofs.YtelindgnkpfkiaaGreatDoor
