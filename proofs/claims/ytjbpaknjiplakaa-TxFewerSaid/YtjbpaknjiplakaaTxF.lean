/-
  slices.Equal of strings and of Outs, sameIn, slices.EqualFunc of Ins, tx.Equal. Conditions: none.
-/
import Derived.Test.YtjbpaknjiplakaaTxD
import Derived.Test.YtjbpaknjiplakaaReg
namespace Go.Proofs.Ytjbpaknjiplakaa
open Go.RowKit Go.BigFrame
set_option linter.unusedVariables false
set_option linter.unusedSimpArgs false

noncomputable def eqB {α : Type} (a b : α) : Bool := @decide (a = b) (Classical.propDecidable _)
theorem eqB_yes {α : Type} {a b : α} (h : a = b) : eqB a b = true := @decide_eq_true _ (Classical.propDecidable _) h
theorem eqB_no {α : Type} {a b : α} (h : a ≠ b) : eqB a b = false := @decide_eq_false _ (Classical.propDecidable _) h
theorem eqB_iff {α : Type} {a b : α} : eqB a b = true ↔ a = b := ⟨fun h => @of_decide_eq_true _ (Classical.propDecidable _) h, eqB_yes⟩
theorem eqB_tx (t u : PTx) : eqB t u = sameTx t u := rfl
theorem below_drewN (w : World) : ∀ n, Below w.heap.size w (w.drewN n) := fun n => by
  induction n with
  | zero => exact Below.refl _ _
  | succ n ih => exact ih.drew
theorem strEq_any (v1 v2 : Value) (l m : List ByteArray) (w : World) (h1 : SlAt rpStr w v1 l) (h2 : SlAt rpStr w v2 m) : Calls Try.prog 58 #[v1, v2] w (BIs (eqB l m) w) := by
  obtain ⟨a, c, rfl, hl1, hl2⟩ := h1.shape
  obtain ⟨e, g, rfl, hm1, hm2⟩ := h2.shape
  rw [maxLen_eq] at hl2 hm2
  by_cases hlm : l.length = m.length
  rotate_left
  · refine (Try.slices_Equal_string_lens a e l.length c m.length g w hlm).mono ?_
    rintro en w' ⟨rfl, rfl⟩
    exact ⟨ret_bool (eqB_no (fun h => hlm (by rw [h]))).symm, Below.refl _ _⟩
  rcases Nat.eq_zero_or_pos l.length with h0 | h0
  · have e1 : l = [] := List.eq_nil_of_length_eq_zero h0
    have e2 : m = [] := List.eq_nil_of_length_eq_zero (by omega)
    subst e1
    subst e2
    refine (Try.slices_Equal_string_empty a e c 0 g w (by omega)).mono ?_
    rintro en w' ⟨rfl, rfl⟩
    exact ⟨ret_bool (by rw [eqB_yes rfl]; rfl), Below.refl _ _⟩
  · obtain ⟨⟨a', c', ea, -, -, -, -, ha⟩, -⟩ := row_of_strs h1
    obtain ⟨⟨e', g', ee, -, -, -, -, he⟩, -⟩ := row_of_strs h2
    obtain ⟨b1, o1, x1, rfl, -, -, -⟩ := h1.str h0
    obtain ⟨b2, o2, x2, rfl, -, -, -⟩ := h2.str (i := 0) (by omega)
    obtain ⟨rfl, rfl⟩ : a' = some ⟨b1, o1, none⟩ ∧ c' = c := by cases ea; exact ⟨rfl, rfl⟩
    obtain ⟨rfl, rfl⟩ : e' = some ⟨b2, o2, none⟩ ∧ g' = g := by cases ee; exact ⟨rfl, rfl⟩
    have get : ∀ (l : List ByteArray) (j : Nat), j < l.length → (strCells l)[j]? = some (.string (l.getD j ByteArray.empty)) := by
      intro l j hj
      simp [strCells, List.getD, List.getElem?_eq_getElem hj]
    refine (Try.slices_Equal_string b1 o1 l.length c' b2 o2 m.length g' l m w (Nat.le_refl _) (Nat.le_refl _) (by omega) (by omega) (fun j hj => ?_) (fun j hj => ?_)).mono ?_
    · have := ha _ rfl j _ (get l j hj)
      rwa [Addr.add_lit] at this
    · have := he _ rfl j _ (get m j hj)
      rwa [Addr.add_lit] at this
    · rintro en w' ⟨rfl, q, rfl⟩
      refine ⟨ret_bool ?_, below_drewN _ _⟩
      rw [List.take_length, List.take_length]
      by_cases h : l = m
      · rw [eqB_yes h, decide_eq_true h]
      · rw [eqB_no h, decide_eq_false h]

def outV (x : POut) : Value := .agg #[.int .i64 x.val, .string x.script]
theorem guardOut : Try.prog.eqGuardType Try.prog.depth 52 = false := by kernel_rfl
theorem eqIn_out (a b : POut) (w : World) : (Op.equalIn 10000 52 (outV a) (outV b)).run Try.prog w = .ok (eqB a b) w := by
  have hS : Try.prog.underlying 52 = some (.struct (Try.prog.fieldsOf 52)) := by kernel_rfl
  have hp : Try.prog.stoodInHeld 52 = false := by kernel_rfl
  obtain ⟨a1, a2⟩ := a
  obtain ⟨b1, b2⟩ := b
  unfold outV
  dsimp only
  rw [show (10000 : Nat) = 9999 + 1 from rfl, run_equalIn_agg w 9999 52 _ _ hS hp]
  simp only [Program.fieldsOf, Try.underlying52]
  have u1 := Try.underlying9
  have u2 := Try.underlying3
  go_simp
  rw [ByteArray.toList_eq, ByteArray.toList_eq]
  by_cases h1 : a1 = b1
  · subst h1
    by_cases h2 : a2 = b2
    · subst h2
      rw [eqB_yes rfl]
      simp
    · have : a2.data.toList ≠ b2.data.toList := fun h => h2 (by cases a2; cases b2; simp at h; simp [h])
      rw [eqB_no (fun h => h2 (congrArg POut.script h))]
      simp [this]
  · rw [eqB_no (fun h => h1 (congrArg POut.val h))]
    simp [h1]
set_option maxHeartbeats 1000000 in
theorem outEq_any (v1 v2 : Value) (l m : List POut) (w : World) (h1 : SlAt rpOut w v1 l) (h2 : SlAt rpOut w v2 m) : Calls Try.prog 44 #[v1, v2] w (BIs (eqB l m) w) := by
  obtain ⟨a, c, rfl, hl1, hl2⟩ := h1.shape
  obtain ⟨e, g, rfl, hm1, hm2⟩ := h2.shape
  rw [maxLen_eq] at hl2 hm2
  obtain ⟨r, hr⟩ : ∃ r, r = eqB l m := ⟨_, rfl⟩
  rw [← hr]
  obtain ⟨n, hn⟩ : ∃ n, n = l.length := ⟨_, rfl⟩
  obtain ⟨n', hn'⟩ : ∃ n, n = m.length := ⟨_, rfl⟩
  rw [← hn] at h1 hl1 ⊢
  rw [← hn'] at h2 hm1 ⊢
  have HR := Lib.hid hr
  have HN := Lib.hid hn
  have HN' := Lib.hid hn'
  have H1 := Lib.hid h1
  have H2 := Lib.hid h2
  clear hr hn hn' h1 h2
  go_enter Try.func44, Try.ntmps44
  by_cases hlm : n = n'
  rotate_left
  · have hz : (n : Int) ≠ n' := by omega
    have HF := Lib.hid (show r = false by rw [HR.out]; exact eqB_no (fun h => hlm (by rw [HN.out, HN'.out, h])))
    go_wp2_with fail
    go_ret
    exact ⟨ret_bool HF.out.symm, Below.refl _ _⟩
  subst hlm
  go_wp2_with fail
  go_loopg [13] n (fun gq i wr => ∃ (k : Nat), gq = n - k ∧ k ≤ n ∧ i = .int .i64 k ∧ Below w.heap.size w wr ∧ ∀ (j : Nat) (x y : POut), j < k → l[j]? = some x → m[j]? = some y → x = y)
  case atStart => exact ⟨0, rfl, by omega, rfl, Below.refl _ _, fun j x y hj => absurd hj (Nat.not_lt_zero _)⟩
  case round =>
    rename World => wo
    obtain ⟨k, hgk, hk, rfl, hb, hall⟩ := hrel
    have HGK := Lib.hid hgk
    have HALL := Lib.hid hall
    have HB := Lib.hid hb
    clear hgk hall hb
    by_cases hlt : k < n
    · obtain ⟨b1, o1, x, rfl, hx, -, x0, x1⟩ := (H1.out.below HB.out).outp hlt
      obtain ⟨b2, o2, y, rfl, hy, -, y0, y1⟩ := (H2.out.below HB.out).outp hlt
      have HX := Lib.hid hx
      have HY := Lib.hid hy
      clear hx hy
      have hlo : (0 : Int) ≤ (k : Int) := by omega
      have hgo := guardOut
      by_cases hxy : x = y
      · subst hxy
        have heq : ∀ w : World, (Op.equalIn 10000 52 (.agg #[.int .i64 x.val, .string x.script]) (.agg #[.int .i64 x.val, .string x.script])).run Try.prog w = .ok true w := fun w => by have := eqIn_out x x w; rw [eqB_yes rfl] at this; exact this
        have HST := Lib.hid (same_step HALL.out HX.out HY.out rfl)
        go_wp2_with fail
        go_quiet (fail)
        have HB2 := Lib.hid (HB.out.trans ((below_drewN wo nq).mono HB.out.size))
        go_wp2_with fail
        go_roundg (n - (k + 1))
        case measure => have := HGK.out; omega
        case rel => exact ⟨k + 1, rfl, by omega, by go_num, HB2.out, HST.out⟩
      · have heq : ∀ w : World, (Op.equalIn 10000 52 (.agg #[.int .i64 x.val, .string x.script]) (.agg #[.int .i64 y.val, .string y.script])).run Try.prog w = .ok false w := fun w => by have := eqIn_out x y w; rw [eqB_no hxy] at this; exact this
        have HF := Lib.hid (show r = false by rw [HR.out]; exact eqB_no (ne_at HX.out HY.out hxy))
        clear hxy
        go_wp2_with fail
        go_quiet (fail)
        have HB2 := Lib.hid (HB.out.trans ((below_drewN wo nq).mono HB.out.size))
        go_wp2_with fail
        go_ret
        exact ⟨ret_bool HF.out.symm, HB2.out⟩
    · obtain rfl : k = n := by omega
      have HF := Lib.hid (show r = true by rw [HR.out]; exact eqB_yes (list_same (by rw [← HN.out, ← HN'.out]) (fun j x y hj => HALL.out j x y (by rw [HN.out]; exact hj))))
      go_wp2_with fail
      go_ret
      exact ⟨ret_bool HF.out.symm, HB.out⟩

theorem two_boxes (w : World) (A B : Array Value) (t : TypeId) : Below w.heap.size w ((w.alloc (.cells A t)).alloc (.cells B t)) ∧ ((w.alloc (.cells A t)).alloc (.cells B t)).heap[w.heap.size]? = some (.cells A t (0, 0)) ∧
    ((w.alloc (.cells A t)).alloc (.cells B t)).heap[w.heap.size + 1]? = some (.cells B t (0, 0)) := by
  have s1 : (w.alloc (.cells A t)).heap.size = w.heap.size + 1 := by simp
  refine ⟨((Below.refl _ _).alloc (Nat.le_refl _) _).alloc (by rw [s1]; omega) _, ?_, ?_⟩
  · rw [Below.heap_alloc _ _ _ (by rw [s1]; omega)]
    exact heap_alloc_new w _
  · rw [← s1]
    exact heap_alloc_new _ _
theorem in_below {w w' : World} {v : Value} {x : PIn} (h : InAt w v x) (hb : Below w.heap.size w w') : InAt w' v x := by
  obtain ⟨wv, h1, h2, h3, h4, h5⟩ := h
  exact ⟨wv, h1, h2.below hb, h3, h4, h5⟩
theorem in_ne_pt {x y : PIn} (h : (x.id, x.idx) ≠ (y.id, y.idx)) : x ≠ y := fun e => h (by rw [e])
theorem in_eq {x y : PIn} (h : (x.id, x.idx) = (y.id, y.idx)) (hs : x.seq = y.seq) (hw : x.wit = y.wit) : x = y := by
  have h1 := congrArg Prod.fst h
  have h2 := congrArg Prod.snd h
  exact in_same h1 h2 hs hw
set_option maxHeartbeats 1000000 in
theorem inEq_any (v1 v2 : Value) (x y : PIn) (w : World) (h1 : InAt w v1 x) (h2 : InAt w v2 y) : Calls Try.prog 43 #[v1, v2] w (BIs (eqB x y) w) := by
  obtain ⟨u1, rfl, hs1, -, -, -⟩ := h1
  obtain ⟨u2, rfl, hs2, -, -, -⟩ := h2
  obtain ⟨a1, c1, rfl, -, -⟩ := hs1.shape
  obtain ⟨a2, c2, rfl, -, -⟩ := hs2.shape
  obtain ⟨r, hr⟩ : ∃ r, r = eqB x y := ⟨_, rfl⟩
  rw [← hr]
  obtain ⟨l, hl⟩ : ∃ l, l = x.wit.length := ⟨_, rfl⟩
  obtain ⟨l2, hl2⟩ : ∃ l, l = y.wit.length := ⟨_, rfl⟩
  rw [← hl] at hs1 ⊢
  rw [← hl2] at hs2 ⊢
  have HR := Lib.hid hr
  obtain ⟨hal, hz1, hz2⟩ := two_boxes w #[.string x.id, .int .u32 x.idx, .int .u32 x.seq, .slice a1 l c1] #[.string y.id, .int .u32 y.idx, .int .u32 y.seq, .slice a2 l2 c2] 43
  have H1 := Lib.hid (hs1.below hal)
  have H2 := Lib.hid (hs2.below hal)
  clear hr hs1 hs2 hl hl2
  go_enter Try.func43, Try.ntmps43
  go_upto_region 1 with fail
  generalize (w.alloc (.cells #[.string x.id, .int .u32 x.idx, .int .u32 x.seq, .slice a1 l c1] 43)).alloc (.cells #[.string y.id, .int .u32 y.idx, .int .u32 y.seq, .slice a2 l2 c2] 43) = w0 at *
  have p0 : w0.cell? ⟨w.heap.size, 0, none⟩ = some (.string x.id) := cell_at hz1
  have p1 : w0.cell? ⟨w.heap.size, 1, none⟩ = some (.int .u32 x.idx) := cell_at hz1
  have p2 : w0.cell? ⟨w.heap.size, 2, none⟩ = some (.int .u32 x.seq) := cell_at hz1
  have p3 : w0.cell? ⟨w.heap.size, 3, none⟩ = some (.slice a1 l c1) := cell_at hz1
  have q0 : w0.cell? ⟨w.heap.size + 1, 0, none⟩ = some (.string y.id) := cell_at hz2
  have q1 : w0.cell? ⟨w.heap.size + 1, 1, none⟩ = some (.int .u32 y.idx) := cell_at hz2
  have q2 : w0.cell? ⟨w.heap.size + 1, 2, none⟩ = some (.int .u32 y.seq) := cell_at hz2
  have q3 : w0.cell? ⟨w.heap.size + 1, 3, none⟩ = some (.slice a2 l2 c2) := cell_at hz2
  have HAL := Lib.hid hal
  have hgp := guardPt
  clear hal hz1 hz2
  by_cases hpt : (x.id, x.idx) = (y.id, y.idx)
  rotate_left
  · have heq : ∀ w : World, (Op.equalIn 10000 40 (.agg #[.string x.id, .int .u32 x.idx]) (.agg #[.string y.id, .int .u32 y.idx])).run Try.prog w = .ok false w := fun w => by have := eqIn_pt (x.id, x.idx) (y.id, y.idx) w; rw [decide_eq_false hpt] at this; exact this
    have HF := Lib.hid (show r = false by rw [HR.out]; exact eqB_no (in_ne_pt hpt))
    clear hpt
    go_wp2_with fail
    go_ret
    exact ⟨ret_bool HF.out.symm, HAL.out⟩
  have heq : ∀ w : World, (Op.equalIn 10000 40 (.agg #[.string x.id, .int .u32 x.idx]) (.agg #[.string y.id, .int .u32 y.idx])).run Try.prog w = .ok true w := fun w => by have := eqIn_pt (x.id, x.idx) (y.id, y.idx) w; rw [decide_eq_true hpt] at this; exact this
  have HP := Lib.hid hpt
  clear hpt
  by_cases hsq : x.seq = y.seq
  rotate_left
  · have hz : (x.seq : Int) ≠ y.seq := by omega
    have HF := Lib.hid (show r = false by rw [HR.out]; exact eqB_no (fun h => hsq (by rw [h])))
    clear hsq
    go_wp2_with fail
    go_ret
    exact ⟨ret_bool HF.out.symm, HAL.out⟩
  rw [← hsq] at q2
  have HS := Lib.hid hsq
  clear hsq
  have hrw : eqB x.wit y.wit = r := by
    rw [HR.out]
    by_cases hw : x.wit = y.wit
    · rw [eqB_yes hw, eqB_yes (in_eq HP.out HS.out hw)]
    · rw [eqB_no hw, eqB_no (fun h => hw (by rw [h]))]
  have HE := Lib.hid (hrw ▸ strEq_any _ _ _ _ w0 H1.out H2.out)
  clear hrw
  go_wp2_with fail
  refine HE.out.mono ?_
  rintro e w1 ⟨rfl, hb⟩
  go_wp2_with fail
  go_ret
  exact ⟨rfl, HAL.out.trans (hb.mono HAL.out.size)⟩

set_option maxHeartbeats 1000000 in
theorem insEq_any (v1 v2 : Value) (l m : List PIn) (w : World) (h1 : SlAt rpIn w v1 l) (h2 : SlAt rpIn w v2 m) : Calls Try.prog 42 #[v1, v2, .func (.func 43) #[] #[]] w (BIs (eqB l m) w) := by
  obtain ⟨a, c, rfl, hl1, hl2⟩ := h1.shape
  obtain ⟨e, g, rfl, hm1, hm2⟩ := h2.shape
  rw [maxLen_eq] at hl2 hm2
  obtain ⟨r, hr⟩ : ∃ r, r = eqB l m := ⟨_, rfl⟩
  rw [← hr]
  obtain ⟨n, hn⟩ : ∃ n, n = l.length := ⟨_, rfl⟩
  obtain ⟨n', hn'⟩ : ∃ n, n = m.length := ⟨_, rfl⟩
  rw [← hn] at h1 hl1 ⊢
  rw [← hn'] at h2 hm1 ⊢
  have HR := Lib.hid hr
  have HN := Lib.hid hn
  have HN' := Lib.hid hn'
  have H1 := Lib.hid h1
  have H2 := Lib.hid h2
  clear hr hn hn' h1 h2
  go_enter Try.func42, Try.ntmps42
  by_cases hlm : n = n'
  rotate_left
  · have hz : (n : Int) ≠ n' := by omega
    have HF := Lib.hid (show r = false by rw [HR.out]; exact eqB_no (fun h => hlm (by rw [HN.out, HN'.out, h])))
    go_wp2_with fail
    go_ret
    exact ⟨ret_bool HF.out.symm, Below.refl _ _⟩
  subst hlm
  go_wp2_with fail
  go_loopg [17] n (fun gq i wr => ∃ (k : Nat), gq = n - k ∧ k ≤ n ∧ i = .int .i64 k ∧ Below w.heap.size w wr ∧ ∀ (j : Nat) (x y : PIn), j < k → l[j]? = some x → m[j]? = some y → x = y)
  case atStart => exact ⟨0, rfl, by omega, rfl, Below.refl _ _, fun j x y hj => absurd hj (Nat.not_lt_zero _)⟩
  case round =>
    rename World => wo
    obtain ⟨k, hgk, hk, rfl, hb, hall⟩ := hrel
    have HGK := Lib.hid hgk
    have HALL := Lib.hid hall
    have HB := Lib.hid hb
    clear hgk hall hb
    by_cases hlt : k < n
    · obtain ⟨b1, o1, x, wv, rfl, hx, hseq, hidx, hid, hwv, x0, x1, x2, x3⟩ := (H1.out.below HB.out).inp hlt
      obtain ⟨b2, o2, y, wv2, rfl, hy, hseq2, hidx2, hid2, hwv2, y0, y1, y2, y3⟩ := (H2.out.below HB.out).inp hlt
      obtain ⟨a1, c1, rfl, -, -⟩ := hwv.shape
      obtain ⟨a2, c2, rfl, -, -⟩ := hwv2.shape
      have HX := Lib.hid hx
      have HY := Lib.hid hy
      have A1 := Lib.hid (show InAt wo (.agg #[.string x.id, .int .u32 x.idx, .int .u32 x.seq, .slice a1 x.wit.length c1]) x from ⟨_, rfl, hwv, hidx, hseq, hid⟩)
      have A2 := Lib.hid (show InAt wo (.agg #[.string y.id, .int .u32 y.idx, .int .u32 y.seq, .slice a2 y.wit.length c2]) y from ⟨_, rfl, hwv2, hidx2, hseq2, hid2⟩)
      obtain ⟨q1, hq1⟩ : ∃ q, q = x.wit.length := ⟨_, rfl⟩
      obtain ⟨q2, hq2⟩ : ∃ q, q = y.wit.length := ⟨_, rfl⟩
      rw [← hq1] at A1 x3
      rw [← hq2] at A2 y3
      clear hx hy hwv hwv2 hseq hseq2 hidx hidx2 hid hid2 hq1 hq2
      have hlo : (0 : Int) ≤ (k : Int) := by omega
      go_upto_region 6 with fail
      have hz := heap_alloc_new wo (.cells #[.string x.id, .int .u32 x.idx, .int .u32 x.seq, .slice a1 q1 c1] 43)
      have hal : Below wo.heap.size wo (wo.alloc (.cells #[.string x.id, .int .u32 x.idx, .int .u32 x.seq, .slice a1 q1 c1] 43)) := (Below.refl _ _).alloc (Nat.le_refl _) _
      obtain ⟨X, hX⟩ : ∃ q, q = wo.heap.size := ⟨_, rfl⟩
      rw [← hX] at hz ⊢
      generalize wo.alloc (.cells #[.string x.id, .int .u32 x.idx, .int .u32 x.seq, .slice a1 q1 c1] 43) = w1 at *
      have hb := hal
      replace y0 := below_cells hb _ _ y0
      replace y1 := below_cells hb _ _ y1
      replace y2 := below_cells hb _ _ y2
      replace y3 := below_cells hb _ _ y3
      have p0 : w1.cell? ⟨X, 0, none⟩ = some (.string x.id) := cell_at hz
      have p1 : w1.cell? ⟨X, 1, none⟩ = some (.int .u32 x.idx) := cell_at hz
      have p2 : w1.cell? ⟨X, 2, none⟩ = some (.int .u32 x.seq) := cell_at hz
      have p3 : w1.cell? ⟨X, 3, none⟩ = some (.slice a1 q1 c1) := cell_at hz
      have HB1 := Lib.hid hb
      clear hz hal hb hX x0 x1 x2 x3
      go_upto_region 7 with fail
      have hz := heap_alloc_new w1 (.cells #[.string y.id, .int .u32 y.idx, .int .u32 y.seq, .slice a2 q2 c2] 43)
      have hal : Below w1.heap.size w1 (w1.alloc (.cells #[.string y.id, .int .u32 y.idx, .int .u32 y.seq, .slice a2 q2 c2] 43)) := (Below.refl _ _).alloc (Nat.le_refl _) _
      obtain ⟨Y, hY⟩ : ∃ q, q = w1.heap.size := ⟨_, rfl⟩
      rw [← hY] at hz ⊢
      generalize w1.alloc (.cells #[.string y.id, .int .u32 y.idx, .int .u32 y.seq, .slice a2 q2 c2] 43) = w2 at *
      have hb := hal
      replace p0 := below_cells hb _ _ p0
      replace p1 := below_cells hb _ _ p1
      replace p2 := below_cells hb _ _ p2
      replace p3 := below_cells hb _ _ p3
      have q0 : w2.cell? ⟨Y, 0, none⟩ = some (.string y.id) := cell_at hz
      have qq1 : w2.cell? ⟨Y, 1, none⟩ = some (.int .u32 y.idx) := cell_at hz
      have qq2 : w2.cell? ⟨Y, 2, none⟩ = some (.int .u32 y.seq) := cell_at hz
      have q3 : w2.cell? ⟨Y, 3, none⟩ = some (.slice a2 q2 c2) := cell_at hz
      have HB2 := Lib.hid (HB1.out.trans (hb.mono HB1.out.size))
      have HC := Lib.hid (inEq_any _ _ x y w2 (in_below A1.out HB2.out) (in_below A2.out HB2.out))
      clear hz hal hb hY y0 y1 y2 y3 HB1 A1 A2
      by_cases hxy : x = y
      · have HST := Lib.hid (same_step HALL.out HX.out HY.out hxy)
        rw [eqB_yes hxy] at HC
        clear hxy
        go_wp2_with fail
        refine HC.out.mono ?_
        rintro e w3 ⟨rfl, hb⟩
        have HB3 := Lib.hid (HB.out.trans ((HB2.out.trans (hb.mono HB2.out.size)).mono HB.out.size))
        clear hb p0 p1 p2 p3 q0 qq1 qq2 q3
        go_wp2_with fail
        go_roundg (n - (k + 1))
        case measure => have := HGK.out; omega
        case rel => exact ⟨k + 1, rfl, by omega, by go_num, HB3.out, HST.out⟩
      · have HF := Lib.hid (show r = false by rw [HR.out]; exact eqB_no (ne_at HX.out HY.out hxy))
        rw [eqB_no hxy] at HC
        clear hxy
        go_wp2_with fail
        refine HC.out.mono ?_
        rintro e w3 ⟨rfl, hb⟩
        have HB3 := Lib.hid (HB.out.trans ((HB2.out.trans (hb.mono HB2.out.size)).mono HB.out.size))
        clear hb p0 p1 p2 p3 q0 qq1 qq2 q3
        go_wp2_with fail
        go_ret
        exact ⟨ret_bool HF.out.symm, HB3.out⟩
    · obtain rfl : k = n := by omega
      have HF := Lib.hid (show r = true by rw [HR.out]; exact eqB_yes (list_same (by rw [← HN.out, ← HN'.out]) (fun j x y hj => HALL.out j x y (by rw [HN.out]; exact hj))))
      go_wp2_with fail
      go_ret
      exact ⟨ret_bool HF.out.symm, HB.out⟩

set_option maxHeartbeats 1000000 in
theorem equal_any (v1 v2 : Value) (t u : PTx) (w : World) (h1 : TxAt w v1 t) (h2 : TxAt w v2 u) : Calls Try.prog 25 #[v1, v2] w (BIs (sameTx t u) w) := by
  obtain ⟨va, vo, rfl, hia, hob, -, -⟩ := h1
  obtain ⟨vc, vq, rfl, hic, hoq, -, -⟩ := h2
  obtain ⟨a, c, rfl, hl1, hl2⟩ := hia.shape
  obtain ⟨a', c', rfl, hl1', hl2'⟩ := hob.shape
  obtain ⟨e, g, rfl, hm1, hm2⟩ := hic.shape
  obtain ⟨e', g', rfl, hm1', hm2'⟩ := hoq.shape
  have htb := T2.start (t := t) (u := u) hia hob hic hoq
  have HTB := Lib.hid htb
  clear htb hia hob hic hoq
  obtain ⟨r, hr⟩ : ∃ r, r = sameTx t u := ⟨_, rfl⟩
  rw [← hr]
  have HR := Lib.hid hr
  clear hr
  obtain ⟨n, hn⟩ : ∃ n, n = t.ins.length := ⟨_, rfl⟩
  obtain ⟨n', hn'⟩ : ∃ n, n = t.outs.length := ⟨_, rfl⟩
  obtain ⟨m, hm⟩ : ∃ n, n = u.ins.length := ⟨_, rfl⟩
  obtain ⟨m', hm'⟩ : ∃ n, n = u.outs.length := ⟨_, rfl⟩
  rw [← hn, ← hn', ← hm, ← hm'] at HTB
  rw [← hn, ← hn', ← hm, ← hm']
  clear hn hn' hm hm' hl1 hl2 hl1' hl2' hm1 hm2 hm1' hm2'
  go_enter Try.func25, Try.ntmps25
  go_upto_region 1 with fail
  generalize (w.alloc (.cells #[.int .u32 t.ver, .slice a n c, .slice a' n' c', .int .u32 t.lock] 26)).alloc (.cells #[.int .u32 u.ver, .slice e m g, .slice e' m' g', .int .u32 u.lock] 26) = w0 at *
  have c0 : w0.cell? ⟨w.heap.size, 0, none⟩ = some (.int .u32 t.ver) := cell_at HTB.out.box1
  have c1 : w0.cell? ⟨w.heap.size, 1, none⟩ = some (.slice a n c) := cell_at HTB.out.box1
  have c2 : w0.cell? ⟨w.heap.size, 2, none⟩ = some (.slice a' n' c') := cell_at HTB.out.box1
  have c3 : w0.cell? ⟨w.heap.size, 3, none⟩ = some (.int .u32 t.lock) := cell_at HTB.out.box1
  have d0 : w0.cell? ⟨w.heap.size + 1, 0, none⟩ = some (.int .u32 u.ver) := cell_at HTB.out.box2
  have d1 : w0.cell? ⟨w.heap.size + 1, 1, none⟩ = some (.slice e m g) := cell_at HTB.out.box2
  have d2 : w0.cell? ⟨w.heap.size + 1, 2, none⟩ = some (.slice e' m' g') := cell_at HTB.out.box2
  have d3 : w0.cell? ⟨w.heap.size + 1, 3, none⟩ = some (.int .u32 u.lock) := cell_at HTB.out.box2
  by_cases hver : t.ver = u.ver
  rotate_left
  · have hz : (t.ver : Int) ≠ u.ver := by omega
    have HF := Lib.hid (same_no (fun h : t = u => hver (by rw [h])))
    go_wp2_with fail
    go_ret
    exact ⟨ret_bool (by rw [HR.out, HF.out]), HTB.out.bel⟩
  rw [← hver] at d0
  by_cases hlock : t.lock = u.lock
  rotate_left
  · have hz : (t.lock : Int) ≠ u.lock := by omega
    have HF := Lib.hid (same_no (fun h : t = u => hlock (by rw [h])))
    go_wp2_with fail
    go_ret
    exact ⟨ret_bool (by rw [HR.out, HF.out]), HTB.out.bel⟩
  rw [← hlock] at d3
  have HV := Lib.hid (And.intro hver hlock)
  clear hver hlock
  have HE := Lib.hid (insEq_any _ _ _ _ w0 HTB.out.ins1 HTB.out.ins2)
  by_cases hins : t.ins = u.ins
  rotate_left
  · have HF := Lib.hid (same_no (fun h : t = u => hins (by rw [h])))
    rw [eqB_no hins] at HE
    clear hins
    go_wp2_with fail
    refine HE.out.mono ?_
    rintro en w1 ⟨rfl, hb⟩
    go_wp2_with fail
    go_ret
    exact ⟨ret_bool (by rw [HR.out, HF.out]), HTB.out.bel.trans (hb.mono HTB.out.bel.size)⟩
  rw [eqB_yes hins] at HE
  have HI := Lib.hid hins
  clear hins
  go_wp2_with fail
  refine HE.out.mono ?_
  rintro en w1 ⟨rfl, hb⟩
  have hro : eqB t.outs u.outs = r := by
    rw [HR.out]
    by_cases ho : t.outs = u.outs
    · rw [eqB_yes ho, same_yes (tx_same HV.out.1 HI.out ho HV.out.2)]
    · rw [eqB_no ho, same_no (fun h => ho (by rw [h]))]
  replace c2 := below_cells hb _ _ c2
  replace d2 := below_cells hb _ _ d2
  have HTB := Lib.hid (HTB.out.next hb)
  have HE2 := Lib.hid (hro ▸ outEq_any _ _ _ _ w1 HTB.out.outs1 HTB.out.outs2)
  clear hro hb HE
  go_wp2_with fail
  refine HE2.out.mono ?_
  rintro en w2 ⟨rfl, hb⟩
  go_wp2_with fail
  go_ret
  exact ⟨rfl, HTB.out.bel.trans (hb.mono HTB.out.bel.size)⟩
end Go.Proofs.Ytjbpaknjiplakaa
