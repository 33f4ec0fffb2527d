/-
  TxSpends: the walk. Conditions: the point's number is a uint32.
-/
import Derived.Test.YtjbpaknjiplakaaTxS
namespace Go.Proofs.Ytjbpaknjiplakaa
open Go.RowKit Go.BigFrame
set_option linter.unusedVariables false
set_option linter.unusedSimpArgs false

theorem ins_oneCell {base : Nat} {w : World} {v : Value} {ps : List (PIn × Value)} (h : InsOwn base w v ps) : ∀ u ∈ insCells ps, u.oneCell' = true := by
  intro u hu
  unfold insCells at hu
  rw [List.mem_flatMap] at hu
  obtain ⟨p, hp, hu⟩ := hu
  obtain ⟨i, hi⟩ := List.mem_iff_getElem?.1 hp
  obtain ⟨a, c, hv, -, -⟩ := ownsRow_shape (h.wit i p hi)
  simp only [inRow, List.mem_cons, List.not_mem_nil, or_false] at hu
  rcases hu with rfl | rfl | rfl | rfl
  · rfl
  · rfl
  · rfl
  · rw [hv]; rfl
theorem ins_src {base : Nat} {w w' : World} {a : Option Addr} {n c : Nat} {ps : List (PIn × Value)} (h : InsOwn base w (.slice a n c) ps) (hb : Below w.heap.size w w') : Src Try.prog 4 23 (.slice a n c) n (insCells ps) w' := by
  have hn : n = ps.length := by
    obtain ⟨a', c', e, -, -⟩ := ownsRow_shape h.row
    simp at e
    exact e.2.1
  rcases h.row.2 with ⟨e, h0⟩ | ⟨g, cap, cur, e, h1, h2, h3, h4, h5, h6⟩
  · obtain ⟨rfl, rfl, rfl⟩ : a = none ∧ n = 0 ∧ c = 0 := by simpa using e
    have : ps = [] := List.eq_nil_of_length_eq_zero h0
    subst this
    exact Src.ofNil _ Try.underlying23 0
  · obtain ⟨rfl, -, rfl⟩ : a = some ⟨g, 0, none⟩ ∧ n = ps.length ∧ c = cap := by simpa using e
    subst hn
    refine Src.ofSlice _ Try.underlying23 ⟨g, 0, none⟩ _ _ (insCells ps) (insCells_len ps) (fun j u hj => below_cells hb _ _ ?_) (ins_oneCell h)
    exact h.row.cells (g := g) rfl j u hj

/-- What the loop over the Ins rests on. -/
structure SpW (w : World) (X L : Nat) (p q : Pt) (u : PTx) (a1 : Option Addr) (n1 c1 : Nat) (a2 : Option Addr) (n2 c2 : Nat) (xs : List PIn) (wr : World) : Prop where
  bel : Below w.heap.size w wr
  p0 : wr.cell? ⟨w.heap.size + 1, 0, none⟩ = some (.string p.1)
  p1 : wr.cell? ⟨w.heap.size + 1, 1, none⟩ = some (.int .u32 p.2)
  q0 : wr.cell? ⟨w.heap.size + 1 + 1, 0, none⟩ = some (.string q.1)
  q1 : wr.cell? ⟨w.heap.size + 1 + 1, 1, none⟩ = some (.int .u32 q.2)
  u0 : wr.cell? ⟨X, 0, none⟩ = some (.int .u32 u.ver)
  u1 : wr.cell? ⟨X, 1, none⟩ = some (.slice a1 n1 c1)
  u2 : wr.cell? ⟨X, 2, none⟩ = some (.slice a2 n2 c2)
  u3 : wr.cell? ⟨X, 3, none⟩ = some (.int .u32 u.lock)
  tx : TxAt wr (.agg #[.int .u32 u.ver, .slice a1 n1 c1, .slice a2 n2 c2, .int .u32 u.lock]) u
  ls : ∀ k, k < xs.length → ∃ (x : PIn) (a : Option Addr) (n c : Nat), xs[k]? = some x ∧ wr.cell? ⟨L, k * 4, none⟩ = some (.string x.id) ∧ wr.cell? ⟨L, k * 4 + 1, none⟩ = some (.int .u32 x.idx) ∧ wr.cell? ⟨L, k * 4 + 2, none⟩ = some (.int .u32 x.seq) ∧ wr.cell? ⟨L, k * 4 + 3, none⟩ = some (.slice a n c)
theorem SpW.next {w wr w' : World} {X L : Nat} {p q : Pt} {u : PTx} {a1 a2 : Option Addr} {n1 c1 n2 c2 : Nat} {xs : List PIn} (h : SpW w X L p q u a1 n1 c1 a2 n2 c2 xs wr) (hb : Below wr.heap.size wr w') : SpW w X L p q u a1 n1 c1 a2 n2 c2 xs w' :=
  ⟨h.bel.trans (hb.mono h.bel.size), below_cells hb _ _ h.p0, below_cells hb _ _ h.p1, below_cells hb _ _ h.q0, below_cells hb _ _ h.q1, below_cells hb _ _ h.u0, below_cells hb _ _ h.u1, below_cells hb _ _ h.u2, below_cells hb _ _ h.u3, h.tx.below hb,
    fun k hk => let ⟨x, a, n, c, e, e0, e1, e2, e3⟩ := h.ls k hk; ⟨x, a, n, c, e, below_cells hb _ _ e0, below_cells hb _ _ e1, below_cells hb _ _ e2, below_cells hb _ _ e3⟩⟩

/-- The first place from j on, or -1. -/
def From (pr : PIn → Bool) (ins : List PIn) (j : Nat) (n : Int) : Prop :=
  (n = -1 ∧ ∀ (l : Nat) (y : PIn), j ≤ l → ins[l]? = some y → pr y = false) ∨ ∃ (l : Nat) (x : PIn), n = l ∧ j ≤ l ∧ ins[l]? = some x ∧ pr x = true ∧ ∀ (m : Nat) (y : PIn), j ≤ m → m < l → ins[m]? = some y → pr y = false
theorem From.end_ (pr : PIn → Bool) (ins : List PIn) : From pr ins ins.length (-1) := .inl ⟨rfl, fun l y hl hy => by rw [List.getElem?_eq_none hl] at hy; cases hy⟩
theorem From.yes {pr : PIn → Bool} {ins : List PIn} {j : Nat} {x : PIn} (hx : ins[j]? = some x) (hp : pr x = true) : From pr ins j j :=
  .inr ⟨j, x, rfl, Nat.le_refl _, hx, hp, fun m y h1 h2 => absurd h2 (by omega)⟩
theorem From.no {pr : PIn → Bool} {ins : List PIn} {j : Nat} {n : Int} {x : PIn} (h : From pr ins (j + 1) n) (hx : ins[j]? = some x) (hp : pr x = false) : From pr ins j n := by
  rcases h with ⟨rfl, h⟩ | ⟨l, y, rfl, hl, hy, hpy, h⟩
  · refine .inl ⟨rfl, fun l y hl hy => ?_⟩
    rcases Nat.lt_or_ge j l with h1 | h1
    · exact h l y h1 hy
    · obtain rfl : l = j := by omega
      rw [hx] at hy
      obtain rfl := Option.some.inj hy
      exact hp
  · refine .inr ⟨l, y, rfl, by omega, hy, hpy, fun m z hm hml hz => ?_⟩
    rcases Nat.lt_or_ge j m with h1 | h1
    · exact h m z h1 hml hz
    · obtain rfl : m = j := by omega
      rw [hx] at hz
      obtain rfl := Option.some.inj hz
      exact hp
theorem From.idx {pr : PIn → Bool} {ins : List PIn} {n m : Int} (h : From pr ins 0 n) (h2 : IdxIs pr ins m) : n = m := by
  rcases h with ⟨rfl, h⟩ | ⟨l, x, rfl, -, hx, hp, h⟩
  · rcases h2 with ⟨rfl, -⟩ | ⟨k, y, rfl, hy, hpy, -⟩
    · rfl
    · rw [h k y (Nat.zero_le _) hy] at hpy; cases hpy
  · rcases h2 with ⟨rfl, h2⟩ | ⟨k, y, rfl, hy, hpy, h2⟩
    · rw [List.any_eq_false] at h2
      exact absurd hp (h2 x (List.mem_of_getElem? hx))
    · rcases Nat.lt_trichotomy l k with h3 | h3 | h3
      · rw [h2 l x h3 hx] at hp; cases hp
      · rw [h3]
      · rw [h k y (Nat.zero_le _) h3 hy] at hpy; cases hpy

set_option maxRecDepth 100000 in
set_option maxHeartbeats 4000000 in
theorem txSpends_nat (v : Value) (t : PTx) (p q : Pt) (w : World) (hv : TxAt w v t) (hp : p.2 < 4294967296) (hq : q.2 < 4294967296) :
    Calls Try.prog 6 #[v, .agg #[.string p.1, .int .u32 p.2], .agg #[.string q.1, .int .u32 q.2]] w (BIs true w) := by
  obtain ⟨va, vo, rfl, hia, hob, hv1, hv2⟩ := id hv
  obtain ⟨a, c, rfl, -, -⟩ := hia.shape
  obtain ⟨a', c', rfl, -, -⟩ := hob.shape
  have HV := Lib.hid hv
  clear hv hia hob hv1 hv2
  obtain ⟨n, hn⟩ : ∃ n, n = t.ins.length := ⟨_, rfl⟩
  obtain ⟨n', hn'⟩ : ∃ n, n = t.outs.length := ⟨_, rfl⟩
  rw [← hn, ← hn'] at HV ⊢
  clear hn hn'
  have s1 : (w.alloc (.cells #[.int .u32 t.ver, .slice a n c, .slice a' n' c', .int .u32 t.lock] 26)).heap.size = w.heap.size + 1 := by simp
  have s2 : ((w.alloc (.cells #[.int .u32 t.ver, .slice a n c, .slice a' n' c', .int .u32 t.lock] 26)).alloc (.cells #[.string p.1, .int .u32 p.2] 40)).heap.size = w.heap.size + 1 + 1 := by simp
  have hz2 := heap_alloc_new ((w.alloc (.cells #[.int .u32 t.ver, .slice a n c, .slice a' n' c', .int .u32 t.lock] 26)).alloc (.cells #[.string p.1, .int .u32 p.2] 40)) (.cells #[.string q.1, .int .u32 q.2] 40)
  have hz1 : (((w.alloc (.cells #[.int .u32 t.ver, .slice a n c, .slice a' n' c', .int .u32 t.lock] 26)).alloc (.cells #[.string p.1, .int .u32 p.2] 40)).alloc (.cells #[.string q.1, .int .u32 q.2] 40)).heap[w.heap.size + 1]? = some (.cells #[.string p.1, .int .u32 p.2] 40 (0, 0)) := by
    rw [Below.heap_alloc _ _ _ (by rw [s2]; omega), ← s1]
    exact heap_alloc_new _ _
  have hz0 : (((w.alloc (.cells #[.int .u32 t.ver, .slice a n c, .slice a' n' c', .int .u32 t.lock] 26)).alloc (.cells #[.string p.1, .int .u32 p.2] 40)).alloc (.cells #[.string q.1, .int .u32 q.2] 40)).heap[w.heap.size]? = some (.cells #[.int .u32 t.ver, .slice a n c, .slice a' n' c', .int .u32 t.lock] 26 (0, 0)) := by
    rw [Below.heap_alloc _ _ _ (by rw [s2]; omega), Below.heap_alloc _ _ _ (by rw [s1]; omega)]
    exact heap_alloc_new w _
  have hb : Below w.heap.size w (((w.alloc (.cells #[.int .u32 t.ver, .slice a n c, .slice a' n' c', .int .u32 t.lock] 26)).alloc (.cells #[.string p.1, .int .u32 p.2] 40)).alloc (.cells #[.string q.1, .int .u32 q.2] 40)) :=
    (((Below.refl _ _).alloc (Nat.le_refl _) _).alloc (by rw [s1]; omega) _).alloc (by rw [s2]; omega) _
  rw [s2] at hz2
  clear s1 s2
  go_enter Try.func6, Try.ntmps6
  go_upto_region 1 with fail
  generalize ((w.alloc (.cells #[.int .u32 t.ver, .slice a n c, .slice a' n' c', .int .u32 t.lock] 26)).alloc (.cells #[.string p.1, .int .u32 p.2] 40)).alloc (.cells #[.string q.1, .int .u32 q.2] 40) = w0 at *
  have d0 : w0.cell? ⟨w.heap.size, 0, none⟩ = some (.int .u32 t.ver) := cell_at hz0
  have d1 : w0.cell? ⟨w.heap.size, 1, none⟩ = some (.slice a n c) := cell_at hz0
  have d2 : w0.cell? ⟨w.heap.size, 2, none⟩ = some (.slice a' n' c') := cell_at hz0
  have d3 : w0.cell? ⟨w.heap.size, 3, none⟩ = some (.int .u32 t.lock) := cell_at hz0
  have p0 : w0.cell? ⟨w.heap.size + 1, 0, none⟩ = some (.string p.1) := cell_at hz1
  have p1 : w0.cell? ⟨w.heap.size + 1, 1, none⟩ = some (.int .u32 p.2) := cell_at hz1
  have q0 : w0.cell? ⟨w.heap.size + 1 + 1, 0, none⟩ = some (.string q.1) := cell_at hz2
  have q1 : w0.cell? ⟨w.heap.size + 1 + 1, 1, none⟩ = some (.int .u32 q.2) := cell_at hz2
  have HB := Lib.hid hb
  have HV := Lib.hid (HV.out.below hb)
  clear hz0 hz1 hz2 hb
  go_wp2_with fail
  refine (cut12_any _ t w0 HV.out).mono ?_
  rintro e w1 ⟨v1, rfl, hown1, hb1⟩
  obtain ⟨⟨vi1, vo1, ps1, rfl, hp1, hi1, ho1, ha1⟩, hv1, hv1'⟩ := id hown1
  obtain ⟨ai1, ci1, rfl, -, -⟩ := ownsRow_shape hi1.row
  obtain ⟨ao1, co1, rfl, -, -⟩ := ownsRow_shape ho1.row
  replace p0 := below_cells hb1 _ _ p0
  replace p1 := below_cells hb1 _ _ p1
  replace q0 := below_cells hb1 _ _ q0
  replace q1 := below_cells hb1 _ _ q1
  have HB1 := Lib.hid (HB.out.trans (hb1.mono HB.out.size))
  have htx1 := hown1.tx
  have hlen12 : ps1.length ≤ 12 := by
    have h := congrArg List.length hp1
    rw [List.length_map] at h
    rw [← h]
    unfold cutTx
    simp
    omega
  obtain ⟨u, hu⟩ : ∃ u, u = cutTx 12 t := ⟨_, rfl⟩
  rw [← hu] at hp1 htx1 ⊢
  clear hown1 ho1 ha1 hv1 hv1' hb1 hu d0 d1 d2 d3 HV HB
  generalize u.outs.length = no at *
  go_upto_region 2 with fail
  obtain ⟨N, hN⟩ : ∃ N, N = ps1.length := ⟨_, rfl⟩
  rw [← hN] at hi1 htx1 hlen12 ⊢
  have hu0 := heap_alloc_new w1 (.cells #[.int .u32 u.ver, .slice ai1 N ci1, .slice ao1 no co1, .int .u32 u.lock] 26)
  have hb2 : Below w1.heap.size w1 (w1.alloc (.cells #[.int .u32 u.ver, .slice ai1 N ci1, .slice ao1 no co1, .int .u32 u.lock] 26)) := (Below.refl _ _).alloc (Nat.le_refl _) _
  have hXlt : w1.heap.size < (w1.alloc (.cells #[.int .u32 u.ver, .slice ai1 N ci1, .slice ao1 no co1, .int .u32 u.lock] 26)).heap.size := by simp
  obtain ⟨X, hX⟩ : ∃ X, X = w1.heap.size := ⟨_, rfl⟩
  rw [← hX] at hu0 hXlt ⊢
  generalize w1.alloc (.cells #[.int .u32 u.ver, .slice ai1 N ci1, .slice ao1 no co1, .int .u32 u.lock] 26) = w2 at *
  have hb3 : Below w2.heap.size w2 (w2.alloc (.cells #[.string p.1, .int .u32 p.2, .int .u32 0, .slice none 0 0] 43)) := (Below.refl _ _).alloc (Nat.le_refl _) _
  have hone := insOwn_one (base := w2.heap.size) (x := ⟨p.1, p.2, 0, []⟩) rfl (Nat.le_refl _) (heap_alloc_new w2 (.cells #[.string p.1, .int .u32 p.2, .int .u32 0, .slice none 0 0] 43))
  obtain ⟨i0, hi, hz0, hz1, hz2⟩ := info_parts info_in
  have hrow1 : (w2.alloc (.cells #[.string p.1, .int .u32 p.2, .int .u32 0, .slice none 0 0] 43)).ownsRow w2.heap.size 43 4 (.slice (some ⟨w2.heap.size, 0, none⟩) 1 1) 1 (inRow (⟨p.1, p.2, 0, []⟩, .slice none 0 0)) :=
    ⟨rfl, .inr ⟨w2.heap.size, 1, _, rfl, Nat.le_refl _, heap_alloc_new w2 _, Nat.le_refl _, by rw [maxLen_eq]; omega, rfl, rfl⟩⟩
  have hsrc := ins_src hi1 (hb2.trans (hb3.mono hb2.size))
  obtain ⟨v3, w3, hrun, hown3, hg3, -⟩ := append_own_src (P := Try.prog) _ w2.heap.size 23 23 23 43 i0 _ 4 56 Try.underlying23 hi hz0 hz1 hz2 rfl _ 1 _ hrow1 (.slice ai1 N ci1) N (insCells ps1) hsrc (by rw [maxLen_eq]; omega) (by omega) hb3.size
  have hbb : Below w2.heap.size w2 w3 := hb3.grown hg3 hb3.size (fun k h => by cases h; exact Nat.le_refl _)
  obtain ⟨a3, c3, rfl, hc3, hc3'⟩ := ownsRow_shape hown3
  obtain ⟨L, rfl, hL1, hL2⟩ := ownsRow_some hown3 (by omega)
  have hcell := hown3.cells (g := L) rfl
  have hps : ∀ k x, (⟨p.1, p.2, 0, []⟩ :: u.ins)[k]? = some x → ∃ a n c, (inRow (⟨p.1, p.2, 0, []⟩, .slice none 0 0) ++ insCells ps1)[k * 4 + 0]? = some (.string x.id) ∧ (inRow (⟨p.1, p.2, 0, []⟩, .slice none 0 0) ++ insCells ps1)[k * 4 + 1]? = some (.int .u32 x.idx) ∧ (inRow (⟨p.1, p.2, 0, []⟩, .slice none 0 0) ++ insCells ps1)[k * 4 + 2]? = some (.int .u32 x.seq) ∧ (inRow (⟨p.1, p.2, 0, []⟩, .slice none 0 0) ++ insCells ps1)[k * 4 + 3]? = some (.slice a n c) := by
    intro k x hx
    have hlist : inRow (⟨p.1, p.2, 0, []⟩, .slice none 0 0) ++ insCells ps1 = ((⟨p.1, p.2, 0, []⟩, .slice none 0 0) :: ps1).flatMap inRow := rfl
    rw [hlist]
    have hk : ∃ wv, (((⟨p.1, p.2, 0, []⟩ : PIn), Value.slice none 0 0) :: ps1)[k]? = some (x, wv) ∧ ∃ a n c, wv = .slice a n c := by
      match k, hx with
      | 0, hx => exact ⟨_, by rw [← Option.some.inj hx]; rfl, none, 0, 0, rfl⟩
      | k + 1, hx =>
        have hx' : u.ins[k]? = some x := hx
        rw [hp1, List.getElem?_map] at hx'
        cases hpk : ps1[k]? with
        | none => rw [hpk] at hx'; cases hx'
        | some pk =>
          rw [hpk] at hx'
          obtain ⟨a, c, hv, -, -⟩ := ownsRow_shape (hi1.wit k pk hpk)
          have he : pk.1 = x := Option.some.inj hx'
          exact ⟨pk.2, by show ps1[k]? = _; rw [hpk, ← he], a, _, c, hv⟩
    obtain ⟨wv, hk, a, n, c, rfl⟩ := hk
    exact ⟨a, n, c, flat_at inRow 4 inRow_len _ k _ hk 0 (by omega), flat_at inRow 4 inRow_len _ k _ hk 1 (by omega), flat_at inRow 4 inRow_len _ k _ hk 2 (by omega), flat_at inRow 4 inRow_len _ k _ hk 3 (by omega)⟩
  have hul : u.ins.length = N := by rw [hp1, List.length_map, hN]
  have hb12 := hb2.trans (hbb.mono hb2.size)
  have hspw : SpW w X L p q u ai1 N ci1 ao1 no co1 (⟨p.1, p.2, 0, []⟩ :: u.ins) w3 := by
    refine ⟨HB1.out.trans (hb12.mono HB1.out.size), below_cells hb12 _ _ p0, below_cells hb12 _ _ p1, below_cells hb12 _ _ q0, below_cells hb12 _ _ q1, ?_, ?_, ?_, ?_, htx1.below hb12, fun k hk => ?_⟩
    · exact below_cells hbb _ _ (cell_at hu0)
    · exact below_cells hbb _ _ (cell_at hu0)
    · exact below_cells hbb _ _ (cell_at hu0)
    · exact below_cells hbb _ _ (cell_at hu0)
    · obtain ⟨x, hx⟩ : ∃ x, ((⟨p.1, p.2, 0, []⟩ : PIn) :: u.ins)[k]? = some x := ⟨_, List.getElem?_eq_getElem hk⟩
      obtain ⟨a, n, c, e0, e1, e2, e3⟩ := hps k x hx
      have cc := fun j v h => by
        have := hcell j v h
        rw [Addr.add_lit, Nat.zero_add] at this
        exact this
      exact ⟨x, a, n, c, hx, cc _ _ e0, cc _ _ e1, cc _ _ e2, cc _ _ e3⟩
  have u0 : w2.cell? ⟨X, 1, none⟩ = some (.slice ai1 N ci1) := cell_at hu0
  replace u0 := cell_over u0 (.cells #[.string p.1, .int .u32 p.2, .int .u32 0, .slice none 0 0] 43)
  replace p0 := below_cells hb2 _ _ p0
  replace p1 := below_cells hb2 _ _ p1
  have HW := Lib.hid hspw
  have HR := Lib.hid hrun
  have HUL := Lib.hid hul
  clear hspw hrun hul hb12 hps hcell hL1 hL2 hbb hown3 hg3 hsrc hrow1 hone hb3 hi1 htx1 hp1 hN q0 q1 hu0 hb2 hXlt hX hi hz0 hz1 hz2
  go_wp2_with (at_builtin; refine wpList_append_run rfl (.tmp 19) (.tmp 21) 23 23 rfl rfl rfl HR.out ?_)
  go_loopg [24] (1 + N) (fun g i wr => ∃ k : Nat, g = 1 + N - k ∧ k ≤ 1 + N ∧ i = .int .i64 k ∧ SpW w X L p q u ai1 N ci1 ao1 no co1 (⟨p.1, p.2, 0, []⟩ :: u.ins) wr)
  case atStart => exact ⟨0, rfl, by omega, rfl, HW.out⟩
  case round =>
    clear HW u0 p0 p1
    rename World => wo
    obtain ⟨k, hgk, hk, rfl, hsw⟩ := hrel
    have HGK := Lib.hid hgk
    have HSW := Lib.hid hsw
    clear hgk hsw
    by_cases hlt : k < 1 + N
    · obtain ⟨x, ax, nx, cx, hx, e0, e1, e2, e3⟩ := HSW.out.ls k (by rw [List.length_cons, HUL.out]; omega)
      clear hx
      go_upto_region 5 with fail
      have hz := heap_alloc_new wo (.cells #[.string x.id, .int .u32 x.idx, .int .u32 x.seq, .slice ax nx cx] 43)
      have hal : Below wo.heap.size wo (wo.alloc (.cells #[.string x.id, .int .u32 x.idx, .int .u32 x.seq, .slice ax nx cx] 43)) := (Below.refl _ _).alloc (Nat.le_refl _) _
      obtain ⟨Y, hY⟩ : ∃ Y, Y = wo.heap.size := ⟨_, rfl⟩
      have HSW := Lib.hid (HSW.out.next hal)
      rw [← hY] at hz ⊢
      generalize wo.alloc (.cells #[.string x.id, .int .u32 x.idx, .int .u32 x.seq, .slice ax nx cx] 43) = wx at *
      have y0 : wx.cell? ⟨Y, 0, none⟩ = some (.string x.id) := cell_at hz
      have y1 : wx.cell? ⟨Y, 1, none⟩ = some (.int .u32 x.idx) := cell_at hz
      have x1 := HSW.out.u1
      clear hz hal hY e0 e1 e2 e3
      go_wp2_with fail
      clear x1
      go_loopg [10, 11, 12] N (fun g wn hs i wr => ∃ (j : Nat) (n : Int), g = j ∧ j ≤ N ∧ i = .int .i64 ((j : Int) - 1) ∧ wn = .int .i64 (max n 0) ∧ hs = .bool (decide (0 ≤ n)) ∧ From (isPt (x.id, x.idx)) u.ins j n ∧ SpW w X L p q u ai1 N ci1 ao1 no co1 (⟨p.1, p.2, 0, []⟩ :: u.ins) wr ∧ wr.cell? ⟨Y, 0, none⟩ = some (.string x.id) ∧ wr.cell? ⟨Y, 1, none⟩ = some (.int .u32 x.idx))
      case atStart => exact ⟨N, -1, rfl, Nat.le_refl _, rfl, rfl, rfl, by rw [← HUL.out]; exact From.end_ _ _, HSW.out, y0, y1⟩
      case round =>
        clear HSW y0 y1
        rename World => wp
        obtain ⟨j, m, hgj, hj, rfl, rfl, rfl, hfr, hsw, y0, y1⟩ := hrel
        have HGJ := Lib.hid hgj
        have HFR := Lib.hid hfr
        have HSW := Lib.hid hsw
        have x1 := hsw.u1
        clear hgj hfr hsw
        rcases j with _ | j
        · -- all Ins have been looked at
          have x0 := HSW.out.u0
          have x2 := HSW.out.u2
          have x3 := HSW.out.u3
          go_wp2_with fail
          refine (spends_any _ u (x.id, x.idx) wp HSW.out.tx).mono ?_
          rintro e w4 ⟨m', hm', rfl, hb4⟩
          obtain rfl := HFR.out.idx hm'
          have HS4 := Lib.hid (HSW.out.next hb4)
          replace y0 := below_cells hb4 _ _ y0
          replace y1 := below_cells hb4 _ _ y1
          clear hb4 hm' x0 x1 x2 x3 HSW HFR
          go_wp2_with fail
          obtain ⟨C, hC⟩ : ∃ C : World → Prop, C = fun w' => Below w4.heap.size w4 w' := ⟨_, rfl⟩
          have k0 : ∀ y : Kin C, y.w.cell? ⟨Y, 0, none⟩ = some (.string x.id) := by
            intro ⟨y, h⟩; subst hC; exact below_cells h _ _ y0
          have k1 : ∀ y : Kin C, y.w.cell? ⟨Y, 1, none⟩ = some (.int .u32 x.idx) := by
            intro ⟨y, h⟩; subst hC; exact below_cells h _ _ y1
          have k2 : ∀ y : Kin C, y.w.cell? ⟨w.heap.size + 1 + 1, 0, none⟩ = some (.string q.1) := by
            intro ⟨y, h⟩; subst hC; exact (HS4.out.next h).q0
          have k3 : ∀ y : Kin C, y.w.cell? ⟨w.heap.size + 1 + 1, 1, none⟩ = some (.int .u32 q.2) := by
            intro ⟨y, h⟩; subst hC; exact (HS4.out.next h).q1
          have hls : ∀ (a1 : ByteArray) (a2 : Nat) (b1 : ByteArray) (b2 : Nat) (y : Kin C), Calls Try.prog 22 #[.agg #[.string a1, .int .u32 a2], .agg #[.string b1, .int .u32 b2]] y.w fun e w' => e = .returned (.bool (lessPt (a1, a2) (b1, b2))) ∧ C w' := by
            intro a1 a2 b1 b2 y
            obtain ⟨y, h⟩ := y
            subst hC
            exact (less_any (a1, a2) (b1, b2) y).mono fun e w' ⟨he, hb⟩ => ⟨he, h.trans (hb.mono h.size)⟩
          have hrl : ∀ (a1 : ByteArray) (a2 : Nat) (b1 : ByteArray) (b2 : Nat) (y : Kin C), Calls Try.prog 23 #[.agg #[.string a1, .int .u32 a2], .agg #[.string b1, .int .u32 b2]] y.w fun e w' => e = .returned (.bool (lessPt (a1, a2) (b1, b2))) ∧ C w' := by
            intro a1 a2 b1 b2 y
            obtain ⟨y, h⟩ := y
            subst hC
            exact (rless_any (a1, a2) (b1, b2) y).mono fun e w' ⟨he, hb⟩ => ⟨he, h.trans (hb.mono h.size)⟩
          have hself := less_self (x.id, x.idx)
          have HLS := Lib.hid hls
          have HRL := Lib.hid hrl
          have HC := Lib.hid hC
          clear hls hrl hC y0 y1
          refine wp_region_kin C (by kernel_rfl) (by kernel_rfl) (by rw [HC.out]; exact ⟨rfl, rfl, rfl, Nat.le_refl _, fun _ _ => rfl⟩) ?_
          intro hne
          repeat (first | (go_big_quiet_step (first | (rename_i y; go_at_call 22; exact Calls.kin (HLS.out _ _ _ _ y) (fun w' h => h)) | (rename_i y; go_at_call 23; exact Calls.kin (HRL.out _ _ _ _ y) (fun w' h => h)))) | (quiet_step (first | (rename_i y; go_at_call 22; exact Calls.kin (HLS.out _ _ _ _ y) (fun w' h => h)) | (rename_i y; go_at_call 23; exact Calls.kin (HRL.out _ _ _ _ y) (fun w' h => h)))))
          refine wpQuiet_nil ?_
          intro _ hw'
          obtain ⟨kx, hw''⟩ := hw'
          subst hw''
          obtain ⟨wy, hxc⟩ := kx
          rw [HC.out] at hxc
          have HSY := Lib.hid (HS4.out.next hxc)
          clear hxc k0 k1 k2 k3 hself
          go_wp2_with fail
          go_roundg (1 + N - (k + 1))
          case measure => have := HGK.out; omega
          case rel => exact ⟨k + 1, rfl, by omega, by go_num, HSY.out⟩
        · have htx := HSW.out.tx
          obtain ⟨va', vo', hval, hia, -, -, -⟩ := htx
          have hval' : Value.slice ai1 N ci1 = va' ∧ Value.slice ao1 no co1 = vo' := by simpa using hval
          obtain ⟨rfl, rfl⟩ := hval'
          obtain ⟨b, o, z, wv, rfl, hz, -, -, -, -, d0, d1, -, -⟩ := hia.inp (show j < N by omega)
          have hj0 : ((j + 1 : Nat) : Int) - 1 = (j : Int) := by omega
          rw [hj0]
          have hjn : (0 : Int) ≤ (j : Int) := by omega
          have hjN : (j : Int) < (N : Int) := by omega
          have heq : ∀ w : World, (Op.equalIn 10000 40 (.agg #[.string z.id, .int .u32 z.idx]) (.agg #[.string x.id, .int .u32 x.idx])).run Try.prog w = .ok (isPt (x.id, x.idx) z) w := fun w => eqIn_pt (z.id, z.idx) (x.id, x.idx) w
          have hgp := guardPt
          have HZ := Lib.hid hz
          clear hval hia hz hj0
          cases hpz : isPt (x.id, x.idx) z
          · rw [hpz] at heq
            have HNX := Lib.hid (HFR.out.no HZ.out hpz)
            clear hpz
            go_wp2_with fail
            go_quiet (fail)
            have hdr : Below wp.heap.size wp (wp.drewN nq) := ⟨rfl, rfl, rfl, Nat.le_refl _, fun _ _ => rfl⟩
            have HSZ := Lib.hid (HSW.out.next hdr)
            replace y0 := below_cells hdr _ _ y0
            replace y1 := below_cells hdr _ _ y1
            clear hdr
            go_wp2_with fail
            go_roundg j
            case measure => have := HGJ.out; omega
            case rel => exact ⟨j, m, rfl, by omega, by go_num, rfl, rfl, HNX.out, HSZ.out, y0, y1⟩
          · rw [hpz] at heq
            have HNX := Lib.hid (From.yes HZ.out hpz)
            clear hpz
            go_wp2_with fail
            go_quiet (fail)
            have hdr : Below wp.heap.size wp (wp.drewN nq) := ⟨rfl, rfl, rfl, Nat.le_refl _, fun _ _ => rfl⟩
            have HSZ := Lib.hid (HSW.out.next hdr)
            replace y0 := below_cells hdr _ _ y0
            replace y1 := below_cells hdr _ _ y1
            clear hdr
            go_wp2_with fail
            go_roundg j
            case measure => have := HGJ.out; omega
            case rel => exact ⟨j, (j : Int), rfl, by omega, by go_num, by rw [show max (j : Int) 0 = (j : Int) by omega], by rw [decide_eq_true hjn], HNX.out, HSZ.out, y0, y1⟩
    · obtain rfl : k = 1 + N := by omega
      go_wp2_with fail
      obtain ⟨C, hC⟩ : ∃ C : World → Prop, C = fun w' => Below wo.heap.size wo w' := ⟨_, rfl⟩
      have k0 : ∀ y : Kin C, y.w.cell? ⟨w.heap.size + 1, 0, none⟩ = some (.string p.1) := by
        intro ⟨y, h⟩; subst hC; exact (HSW.out.next h).p0
      have k1 : ∀ y : Kin C, y.w.cell? ⟨w.heap.size + 1, 1, none⟩ = some (.int .u32 p.2) := by
        intro ⟨y, h⟩; subst hC; exact (HSW.out.next h).p1
      have k2 : ∀ y : Kin C, y.w.cell? ⟨w.heap.size + 1 + 1, 0, none⟩ = some (.string q.1) := by
        intro ⟨y, h⟩; subst hC; exact (HSW.out.next h).q0
      have k3 : ∀ y : Kin C, y.w.cell? ⟨w.heap.size + 1 + 1, 1, none⟩ = some (.int .u32 q.2) := by
        intro ⟨y, h⟩; subst hC; exact (HSW.out.next h).q1
      have hls : ∀ (a1 : ByteArray) (a2 : Nat) (b1 : ByteArray) (b2 : Nat) (y : Kin C), Calls Try.prog 22 #[.agg #[.string a1, .int .u32 a2], .agg #[.string b1, .int .u32 b2]] y.w fun e w' => e = .returned (.bool (lessPt (a1, a2) (b1, b2))) ∧ C w' := by
        intro a1 a2 b1 b2 y
        obtain ⟨y, h⟩ := y
        subst hC
        exact (less_any (a1, a2) (b1, b2) y).mono fun e w' ⟨he, hb⟩ => ⟨he, h.trans (hb.mono h.size)⟩
      have hwk : ∀ (y : Kin C), Calls Try.prog 17 #[] y.w fun e w' => e = .returned (.bool true) ∧ C w' := by
        intro y
        obtain ⟨y, h⟩ := y
        subst hC
        exact (wakes_any y).mono fun e w' ⟨he, hb⟩ => ⟨he, h.trans (hb.mono h.size)⟩
      have heq : ∀ w : World, (Op.equalIn 10000 40 (.agg #[.string p.1, .int .u32 p.2]) (.agg #[.string q.1, .int .u32 q.2])).run Try.prog w = .ok (decide (p = q)) w := fun w => eqIn_pt p q w
      have hgp := guardPt
      have HLS := Lib.hid hls
      have HWK := Lib.hid hwk
      have HC := Lib.hid hC
      clear hls hwk hC
      by_cases hpq : p = q
      · rw [decide_eq_true hpq] at heq
        refine wp_region_kin C (by kernel_rfl) (by kernel_rfl) (by rw [HC.out]; exact ⟨rfl, rfl, rfl, Nat.le_refl _, fun _ _ => rfl⟩) ?_
        intro hne
        repeat (first | (go_big_quiet_step (first | (rename_i y; go_at_call 22; exact Calls.kin (HLS.out _ _ _ _ y) (fun w' h => h)) | (rename_i y; go_at_call 17; exact Calls.kin (HWK.out y) (fun w' h => h)))) | (quiet_step (first | (rename_i y; go_at_call 22; exact Calls.kin (HLS.out _ _ _ _ y) (fun w' h => h)) | (rename_i y; go_at_call 17; exact Calls.kin (HWK.out y) (fun w' h => h)))))
        refine wpQuiet_nil ?_
        intro _ hw'
        obtain ⟨kx, hw''⟩ := hw'
        subst hw''
        obtain ⟨wy, hxc⟩ := kx
        rw [HC.out] at hxc
        have HSY := Lib.hid (HSW.out.next hxc).bel
        clear hxc k0 k1 k2 k3
        go_wp2_with fail
        go_ret
        exact ⟨rfl, HSY.out⟩
      · rw [decide_eq_false hpq] at heq
        have hfl : (lessPt (p.1, p.2) (q.1, q.2) != lessPt (q.1, q.2) (p.1, p.2)) = true := less_flip hpq
        refine wp_region_kin C (by kernel_rfl) (by kernel_rfl) (by rw [HC.out]; exact ⟨rfl, rfl, rfl, Nat.le_refl _, fun _ _ => rfl⟩) ?_
        intro hne
        repeat (first | (go_big_quiet_step (first | (rename_i y; go_at_call 22; exact Calls.kin (HLS.out _ _ _ _ y) (fun w' h => h)) | (rename_i y; go_at_call 17; exact Calls.kin (HWK.out y) (fun w' h => h)))) | (quiet_step (first | (rename_i y; go_at_call 22; exact Calls.kin (HLS.out _ _ _ _ y) (fun w' h => h)) | (rename_i y; go_at_call 17; exact Calls.kin (HWK.out y) (fun w' h => h)))))
        refine wpQuiet_nil ?_
        intro _ hw'
        obtain ⟨kx, hw''⟩ := hw'
        subst hw''
        obtain ⟨wy, hxc⟩ := kx
        rw [HC.out] at hxc
        have HSY := Lib.hid (HSW.out.next hxc).bel
        clear hxc k0 k1 k2 k3
        have HFL := Lib.hid hfl
        clear hfl
        go_wp2_with fail
        go_ret
        exact ⟨ret_bool HFL.out, HSY.out⟩

/-- A point as one value. -/
def PtAt (v : Value) (p : Pt) : Prop := v = .agg #[.string p.1, .int .u32 p.2] ∧ p.2 < 4294967296
set_option maxRecDepth 100000 in
theorem open_point {H : Type} {enc : TypeId × Value → H} {w : World} {v : Value} {d : DataW H} {ps : List MemPlace} (hv : Value.okWide Try.prog w .any 0 40 v) (h : DataW.Trod enc Try.prog w 0 (fun _ => true) true 40 v d ps) :
    ∃ p : Pt, PtAt v p := by
  obtain ⟨cs, rfl, -⟩ := Go.WideShapes.okWide_struct Try.underlying40 hv
  obtain ⟨fuel, hf⟩ := h
  obtain ⟨s, n, hc, -, hn⟩ := rp_of_point hf
  refine ⟨(s, n), ?_, hn⟩
  have : cs.toList = [.string s, .int .u32 n] := by simpa [Value.cells] using hc
  rw [show cs = cs.toList.toArray by simp, this]
theorem txSpends_walk (v : Value) (t : PTx) (vp : Value) (p : Pt) (vq : Value) (q : Pt) (w : World) (hv : TxAt w v t) (hp : PtAt vp p) (hq : PtAt vq q) :
    Calls Try.prog 6 #[v, vp, vq] w (BIs true w) := by
  obtain ⟨rfl, h1⟩ := hp
  obtain ⟨rfl, h2⟩ := hq
  exact txSpends_nat v t p q w hv h1 h2
end Go.Proofs.Ytjbpaknjiplakaa
