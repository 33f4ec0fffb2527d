/-
  The document's Same. Conditions: none beyond each theorem's own.
-/
import Derived.Test.YtmakghcoehkphaaGreatTxH
namespace Go.Proofs.YtmakghcoehkphaaGreat
open Go.RowKit Go.BigFrame
set_option linter.unusedVariables false
set_option linter.unusedSimpArgs false

noncomputable def sameTx (t u : PTx) : Bool := @decide (t = u) (Classical.propDecidable _)
theorem same_yes {t u : PTx} (h : t = u) : sameTx t u = true := @decide_eq_true _ (Classical.propDecidable _) h
theorem same_no {t u : PTx} (h : t ≠ u) : sameTx t u = false := @decide_eq_false _ (Classical.propDecidable _) h

/-- The call's boxes of two transactions. -/
structure T2 (w : World) (va vo vc vq : Value) (t u : PTx) (wr : World) : Prop where
  bel : Below w.heap.size w wr
  box1 : wr.heap[w.heap.size]? = some (.cells #[.int .u32 t.ver, va, vo, .int .u32 t.lock] 44 (0, 0))
  box2 : wr.heap[w.heap.size + 1]? = some (.cells #[.int .u32 u.ver, vc, vq, .int .u32 u.lock] 44 (0, 0))
  ins1 : SlAt rpIn wr va t.ins
  outs1 : SlAt rpOut wr vo t.outs
  ins2 : SlAt rpIn wr vc u.ins
  outs2 : SlAt rpOut wr vq u.outs
theorem T2.next {w wr w' : World} {va vo vc vq : Value} {t u : PTx} (h : T2 w va vo vc vq t u wr) (hb : Below wr.heap.size wr w') : T2 w va vo vc vq t u w' :=
  ⟨h.bel.trans (hb.mono h.bel.size), by rw [hb.block _ (Array.getElem?_eq_some_iff.1 h.box1).1]; exact h.box1, by rw [hb.block _ (Array.getElem?_eq_some_iff.1 h.box2).1]; exact h.box2, h.ins1.below hb, h.outs1.below hb, h.ins2.below hb, h.outs2.below hb⟩
theorem T2.start {w : World} {va vo vc vq : Value} {t u : PTx} (h1 : SlAt rpIn w va t.ins) (h2 : SlAt rpOut w vo t.outs) (h3 : SlAt rpIn w vc u.ins) (h4 : SlAt rpOut w vq u.outs) :
    T2 w va vo vc vq t u ((w.alloc (.cells #[.int .u32 t.ver, va, vo, .int .u32 t.lock] 44)).alloc (.cells #[.int .u32 u.ver, vc, vq, .int .u32 u.lock] 44)) := by
  have s1 : (w.alloc (.cells #[.int .u32 t.ver, va, vo, .int .u32 t.lock] 44)).heap.size = w.heap.size + 1 := by simp
  have hb : Below w.heap.size w ((w.alloc (.cells #[.int .u32 t.ver, va, vo, .int .u32 t.lock] 44)).alloc (.cells #[.int .u32 u.ver, vc, vq, .int .u32 u.lock] 44)) :=
    ((Below.refl _ _).alloc (Nat.le_refl _) _).alloc (by rw [s1]; omega) _
  refine ⟨hb, ?_, ?_, h1.below hb, h2.below hb, h3.below hb, h4.below hb⟩
  · rw [Below.heap_alloc _ _ _ (by rw [s1]; omega)]
    exact heap_alloc_new w _
  · rw [← s1]
    exact heap_alloc_new _ _
theorem tx_same {t u : PTx} (h1 : t.ver = u.ver) (h2 : t.ins = u.ins) (h3 : t.outs = u.outs) (h4 : t.lock = u.lock) : t = u := by
  cases t; cases u; simp only at h1 h2 h3 h4; rw [h1, h2, h3, h4]
theorem in_same {t u : PIn} (h1 : t.id = u.id) (h2 : t.idx = u.idx) (h3 : t.seq = u.seq) (h4 : t.wit = u.wit) : t = u := by
  cases t; cases u; simp only at h1 h2 h3 h4; rw [h1, h2, h3, h4]
theorem out_same {t u : POut} (h1 : t.val = u.val) (h2 : t.script = u.script) : t = u := by
  cases t; cases u; simp only at h1 h2; rw [h1, h2]
theorem list_same {α : Type} {xs ys : List α} (hl : xs.length = ys.length) (h : ∀ (j : Nat) (x y : α), j < xs.length → xs[j]? = some x → ys[j]? = some y → x = y) : xs = ys := by
  apply List.ext_getElem hl
  intro i h1 h2
  exact h i _ _ h1 (List.getElem?_eq_getElem h1) (List.getElem?_eq_getElem h2)
theorem same_step {α : Type} {xs ys : List α} {k : Nat} {x y : α} (h : ∀ (j : Nat) (x y : α), j < k → xs[j]? = some x → ys[j]? = some y → x = y) (hx : xs[k]? = some x) (hy : ys[k]? = some y) (he : x = y) : ∀ (j : Nat) (x y : α), j < k + 1 → xs[j]? = some x → ys[j]? = some y → x = y := by
  intro j x' y' hj hx' hy'
  rcases Nat.lt_or_ge j k with h1 | h1
  · exact h j x' y' h1 hx' hy'
  · obtain rfl : j = k := by omega
    rw [hx] at hx'
    rw [hy] at hy'
    obtain rfl := Option.some.inj hx'
    obtain rfl := Option.some.inj hy'
    exact he
theorem ne_at {α : Type} {xs ys : List α} {k : Nat} {x y : α} (hx : xs[k]? = some x) (hy : ys[k]? = some y) (hne : x ≠ y) : xs ≠ ys := by
  rintro rfl
  rw [hx] at hy
  exact hne (Option.some.inj hy)
theorem bytes_ne {a b : ByteArray} (h : a ≠ b) : (a.toList == b.toList) = false := by
  rw [ByteArray.toList_eq, ByteArray.toList_eq, beq_eq_false_iff_ne]
  intro h'
  apply h
  cases a; cases b
  simp at h'
  rw [h']
theorem bytes_ne' {a b : ByteArray} (h : a ≠ b) : (a.toList != b.toList) = true := by
  rw [bne, bytes_ne h]; rfl

set_option maxRecDepth 100000 in
set_option maxHeartbeats 4000000 in
theorem same_any (v1 v2 : Value) (t u : PTx) (w : World) (h1 : TxAt w v1 t) (h2 : TxAt w v2 u) : Calls Tryz.prog 12 #[v1, v2] w (BIs (sameTx t u) w) := by
  obtain ⟨va, vo, rfl, hia, hob, -, -⟩ := h1
  obtain ⟨vc, vq, rfl, hic, hoq, -, -⟩ := h2
  obtain ⟨a, c, rfl, hl1, hl2⟩ := hia.shape
  obtain ⟨a', c', rfl, hl1', hl2'⟩ := hob.shape
  obtain ⟨e, g, rfl, hm1, hm2⟩ := hic.shape
  obtain ⟨e', g', rfl, hm1', hm2'⟩ := hoq.shape
  rw [maxLen_eq] at hl2 hl2' hm2 hm2'
  have htb := T2.start (t := t) (u := u) hia hob hic hoq
  have HTB := Lib.hid htb
  clear htb hia hob hic hoq
  obtain ⟨r, hr⟩ : ∃ r, r = sameTx t u := ⟨_, rfl⟩
  rw [← hr]
  have HR := Lib.hid hr
  clear hr
  obtain ⟨n, hn⟩ : ∃ n, n = t.ins.length := ⟨_, rfl⟩
  obtain ⟨n', hn'⟩ : ∃ n, n = t.outs.length := ⟨_, rfl⟩
  obtain ⟨m, hm⟩ : ∃ n, n = u.ins.length := ⟨_, rfl⟩
  obtain ⟨m', hm'⟩ : ∃ n, n = u.outs.length := ⟨_, rfl⟩
  rw [← hn, ← hn', ← hm, ← hm'] at HTB
  rw [← hn] at hl1
  rw [← hn'] at hl1'
  rw [← hm] at hm1
  rw [← hm'] at hm1'
  rw [← hn, ← hn', ← hm, ← hm']
  have HN := Lib.hid hn
  have HN' := Lib.hid hn'
  have HM := Lib.hid hm
  have HM' := Lib.hid hm'
  clear hn hn' hm hm'
  go_enter Tryz.func12, Tryz.ntmps12
  go_upto_region 1 with fail
  generalize (w.alloc (.cells #[.int .u32 t.ver, .slice a n c, .slice a' n' c', .int .u32 t.lock] 44)).alloc (.cells #[.int .u32 u.ver, .slice e m g, .slice e' m' g', .int .u32 u.lock] 44) = w0 at *
  have c0 : w0.cell? ⟨w.heap.size, 0, none⟩ = some (.int .u32 t.ver) := cell_at HTB.out.box1
  have c1 : w0.cell? ⟨w.heap.size, 1, none⟩ = some (.slice a n c) := cell_at HTB.out.box1
  have c2 : w0.cell? ⟨w.heap.size, 2, none⟩ = some (.slice a' n' c') := cell_at HTB.out.box1
  have c3 : w0.cell? ⟨w.heap.size, 3, none⟩ = some (.int .u32 t.lock) := cell_at HTB.out.box1
  have d0 : w0.cell? ⟨w.heap.size + 1, 0, none⟩ = some (.int .u32 u.ver) := cell_at HTB.out.box2
  have d1 : w0.cell? ⟨w.heap.size + 1, 1, none⟩ = some (.slice e m g) := cell_at HTB.out.box2
  have d2 : w0.cell? ⟨w.heap.size + 1, 2, none⟩ = some (.slice e' m' g') := cell_at HTB.out.box2
  have d3 : w0.cell? ⟨w.heap.size + 1, 3, none⟩ = some (.int .u32 u.lock) := cell_at HTB.out.box2
  by_cases hver : t.ver = u.ver
  rotate_left
  · have hz : (t.ver : Int) ≠ u.ver := by omega
    have HF := Lib.hid (same_no (fun h : t = u => hver (by rw [h])))
    go_wp2_with fail
    go_ret
    exact ⟨ret_bool (by rw [HR.out, HF.out]), HTB.out.bel⟩
  rw [← hver] at d0
  by_cases hlock : t.lock = u.lock
  rotate_left
  · have hz : (t.lock : Int) ≠ u.lock := by omega
    have HF := Lib.hid (same_no (fun h : t = u => hlock (by rw [h])))
    go_wp2_with fail
    go_ret
    exact ⟨ret_bool (by rw [HR.out, HF.out]), HTB.out.bel⟩
  rw [← hlock] at d3
  by_cases hnm : n = m
  rotate_left
  · have hz : (n : Int) ≠ m := by omega
    have HF := Lib.hid (same_no (fun h : t = u => hnm (by rw [HN.out, HM.out, h])))
    go_wp2_with fail
    go_ret
    exact ⟨ret_bool (by rw [HR.out, HF.out]), HTB.out.bel⟩
  subst hnm
  by_cases hnm : n' = m'
  rotate_left
  · have hz : (n' : Int) ≠ m' := by omega
    have HF := Lib.hid (same_no (fun h : t = u => hnm (by rw [HN'.out, HM'.out, h])))
    go_wp2_with fail
    go_ret
    exact ⟨ret_bool (by rw [HR.out, HF.out]), HTB.out.bel⟩
  subst hnm
  have HV := Lib.hid (And.intro hver hlock)
  clear hver hlock
  go_wp2_with fail
  go_loopg [5] n (fun gq i wr => ∃ (k : Nat), gq = n - k ∧ k ≤ n ∧ i = .int .i64 k ∧ T2 w (.slice a n c) (.slice a' n' c') (.slice e n g) (.slice e' n' g') t u wr ∧ ∀ (j : Nat) (x y : PIn), j < k → t.ins[j]? = some x → u.ins[j]? = some y → x = y)
  case atStart => exact ⟨0, rfl, by omega, rfl, HTB.out, fun j x y hj => absurd hj (Nat.not_lt_zero _)⟩
  case round =>
    clear c0 c1 c2 c3 d0 d1 d2 d3 HTB
    rename World => wo
    obtain ⟨k, hgk, hk, rfl, htb, hall⟩ := hrel
    have HGK := Lib.hid hgk
    have HALL := Lib.hid hall
    have HTB := Lib.hid htb
    have c1 : wo.cell? ⟨w.heap.size, 1, none⟩ = some (.slice a n c) := cell_at htb.box1
    have d1 : wo.cell? ⟨w.heap.size + 1, 1, none⟩ = some (.slice e n g) := cell_at htb.box2
    clear hgk hall htb
    by_cases hlt : k < n
    · obtain ⟨b, o, x, wv, rfl, hx, hseq, hidx, hid, hwv, x0, x1, x2, x3⟩ := HTB.out.ins1.inp hlt
      obtain ⟨b2, o2, y, wv2, rfl, hy, hseq2, hidx2, hid2, hwv2, y0, y1, y2, y3⟩ := HTB.out.ins2.inp hlt
      obtain ⟨wa, wc, rfl, hw1, hw2⟩ := hwv.shape
      obtain ⟨wa2, wc2, rfl, hw12, hw22⟩ := hwv2.shape
      rw [maxLen_eq] at hw2 hw22
      have HX := Lib.hid hx
      have HY := Lib.hid hy
      obtain ⟨l, hl⟩ : ∃ l, l = x.wit.length := ⟨_, rfl⟩
      obtain ⟨l2, hl2⟩ : ∃ l, l = y.wit.length := ⟨_, rfl⟩
      rw [← hl] at hwv hw1 x3
      rw [← hl2] at hwv2 hw12 y3
      have HW := Lib.hid hwv
      have HW2 := Lib.hid hwv2
      have HL := Lib.hid hl
      have HL2 := Lib.hid hl2
      clear hx hy hwv hwv2 hl hl2
      go_upto_region 7 with fail
      have hz := heap_alloc_new wo (.cells #[.string x.id, .int .u32 x.idx, .int .u32 x.seq, .slice wa l wc] 76)
      have hb : Below wo.heap.size wo (wo.alloc (.cells #[.string x.id, .int .u32 x.idx, .int .u32 x.seq, .slice wa l wc] 76)) := (Below.refl _ _).alloc (Nat.le_refl _) _
      obtain ⟨X, hX⟩ : ∃ X, X = wo.heap.size := ⟨_, rfl⟩
      rw [← hX] at hz ⊢
      generalize wo.alloc (.cells #[.string x.id, .int .u32 x.idx, .int .u32 x.seq, .slice wa l wc] 76) = w1 at *
      replace y0 := below_cells hb _ _ y0
      replace y1 := below_cells hb _ _ y1
      replace y2 := below_cells hb _ _ y2
      replace y3 := below_cells hb _ _ y3
      replace d1 := below_cells hb _ _ d1
      have HT1 := Lib.hid (HTB.out.next hb)
      have HW := Lib.hid (HW.out.below hb)
      have HW2 := Lib.hid (HW2.out.below hb)
      have p0 : w1.cell? ⟨X, 0, none⟩ = some (.string x.id) := cell_at hz
      have p1 : w1.cell? ⟨X, 1, none⟩ = some (.int .u32 x.idx) := cell_at hz
      have p2 : w1.cell? ⟨X, 2, none⟩ = some (.int .u32 x.seq) := cell_at hz
      have p3 : w1.cell? ⟨X, 3, none⟩ = some (.slice wa l wc) := cell_at hz
      clear hz hb hX c1 x0 x1 x2 x3 HTB
      go_upto_region 8 with fail
      have hz := heap_alloc_new w1 (.cells #[.string y.id, .int .u32 y.idx, .int .u32 y.seq, .slice wa2 l2 wc2] 76)
      have hb : Below w1.heap.size w1 (w1.alloc (.cells #[.string y.id, .int .u32 y.idx, .int .u32 y.seq, .slice wa2 l2 wc2] 76)) := (Below.refl _ _).alloc (Nat.le_refl _) _
      obtain ⟨Y, hY⟩ : ∃ Y, Y = w1.heap.size := ⟨_, rfl⟩
      rw [← hY] at hz ⊢
      generalize w1.alloc (.cells #[.string y.id, .int .u32 y.idx, .int .u32 y.seq, .slice wa2 l2 wc2] 76) = w2 at *
      replace p0 := below_cells hb _ _ p0
      replace p1 := below_cells hb _ _ p1
      replace p2 := below_cells hb _ _ p2
      replace p3 := below_cells hb _ _ p3
      have HT2 := Lib.hid (HT1.out.next hb)
      have HW := Lib.hid (HW.out.below hb)
      have HW2 := Lib.hid (HW2.out.below hb)
      have q0 : w2.cell? ⟨Y, 0, none⟩ = some (.string y.id) := cell_at hz
      have q1 : w2.cell? ⟨Y, 1, none⟩ = some (.int .u32 y.idx) := cell_at hz
      have q2 : w2.cell? ⟨Y, 2, none⟩ = some (.int .u32 y.seq) := cell_at hz
      have q3 : w2.cell? ⟨Y, 3, none⟩ = some (.slice wa2 l2 wc2) := cell_at hz
      clear hz hb hY d1 y0 y1 y2 y3 HT1
      have hdiff : ∀ (_ : x ≠ y), sameTx t u = false := fun hne => same_no (fun h => ne_at HX.out HY.out hne (by rw [h]))
      have HD := Lib.hid hdiff
      clear hdiff
      by_cases hid1 : x.id = y.id
      rotate_left
      · have hbe := bytes_ne hid1
        have hbe' := bytes_ne' hid1
        have HF := Lib.hid (HD.out (fun h => hid1 (by rw [h])))
        go_wp2_with fail
        go_ret
        exact ⟨ret_bool (by rw [HR.out, HF.out]), HT2.out.bel⟩
      rw [← hid1] at q0
      by_cases hix : x.idx = y.idx
      rotate_left
      · have hne : (x.idx : Int) ≠ y.idx := by omega
        have HF := Lib.hid (HD.out (fun h => hix (by rw [h])))
        go_wp2_with fail
        go_ret
        exact ⟨ret_bool (by rw [HR.out, HF.out]), HT2.out.bel⟩
      rw [← hix] at q1
      by_cases hsq : x.seq = y.seq
      rotate_left
      · have hne : (x.seq : Int) ≠ y.seq := by omega
        have HF := Lib.hid (HD.out (fun h => hsq (by rw [h])))
        go_wp2_with fail
        go_ret
        exact ⟨ret_bool (by rw [HR.out, HF.out]), HT2.out.bel⟩
      rw [← hsq] at q2
      by_cases hll : l = l2
      rotate_left
      · have hne : (l : Int) ≠ l2 := by omega
        have HF := Lib.hid (HD.out (fun h => hll (by rw [HL.out, HL2.out, h])))
        go_wp2_with fail
        go_ret
        exact ⟨ret_bool (by rw [HR.out, HF.out]), HT2.out.bel⟩
      subst hll
      have HE := Lib.hid (show x.wit = y.wit → x = y from fun h => in_same hid1 hix hsq h)
      go_wp2_with fail
      clear hid1 hix hsq
      go_loopg [8] l (fun gq i wr => ∃ (z : Nat), gq = l - z ∧ z ≤ l ∧ i = .int .i64 z ∧ Below w2.heap.size w2 wr ∧ ∀ (j : Nat) (r s : ByteArray), j < z → x.wit[j]? = some r → y.wit[j]? = some s → r = s)
      case atStart => exact ⟨0, rfl, by omega, rfl, Below.refl _ _, fun j r s hj => absurd hj (Nat.not_lt_zero _)⟩
      case round =>
        rename World => wq
        obtain ⟨z, hgz, hz, rfl, hb, hall⟩ := hrel
        have HGZ := Lib.hid hgz
        have HAZ := Lib.hid hall
        have HB := Lib.hid hb
        have r3 := below_cells hb _ _ p3
        have s3 := below_cells hb _ _ q3
        have hw := HW.out.below hb
        have hw2 := HW2.out.below hb
        clear hgz hall hb
        by_cases hzl : z < l
        · obtain ⟨b3, o3, r1, rfl, hr1, hrs, e0⟩ := hw.str hzl
          obtain ⟨b4, o4, s1, rfl, hs1, hss, f0⟩ := hw2.str hzl
          have HR1 := Lib.hid hr1
          have HS1 := Lib.hid hs1
          clear hw hw2 hr1 hs1
          by_cases hrs1 : r1 = s1
          · subst hrs1
            have HNX := Lib.hid (same_step HAZ.out HR1.out HS1.out rfl)
            go_wp2_with fail
            go_quiet (fail)
            have HBZ := Lib.hid (HB.out.trans (show Below w2.heap.size wq (wq.drewN nq) from ⟨rfl, rfl, rfl, Nat.le_refl _, fun _ _ => rfl⟩))
            go_wp2_with fail
            go_roundg (l - (z + 1))
            case measure => have := HGZ.out; omega
            case rel => exact ⟨z + 1, rfl, by omega, by go_num, HBZ.out, HNX.out⟩
          · have hbe := bytes_ne hrs1
            have hbe' := bytes_ne' hrs1
            have HF := Lib.hid (HD.out (fun h => ne_at HR1.out HS1.out hrs1 (by rw [h])))
            go_wp2_with fail
            go_quiet (fail)
            have HBZ := Lib.hid (HT2.out.next (HB.out.trans (show Below w2.heap.size wq (wq.drewN nq) from ⟨rfl, rfl, rfl, Nat.le_refl _, fun _ _ => rfl⟩)))
            go_wp2_with fail
            go_ret
            exact ⟨ret_bool (by rw [HR.out, HF.out]), HBZ.out.bel⟩
        · obtain rfl : z = l := by omega
          have HNX := Lib.hid (same_step HALL.out HX.out HY.out (HE.out (list_same (by rw [← HL.out, ← HL2.out]) (by rw [← HL.out]; exact HAZ.out))))
          have HT3 := Lib.hid (HT2.out.next HB.out)
          go_wp2_with fail
          go_roundg (n - (k + 1))
          case measure => have := HGK.out; omega
          case rel => exact ⟨k + 1, rfl, by omega, by go_num, HT3.out, HNX.out⟩
    · obtain rfl : k = n := by omega
      have HI := Lib.hid (list_same (xs := t.ins) (ys := u.ins) (by rw [← HN.out, ← HM.out]) (by rw [← HN.out]; exact HALL.out))
      clear HALL HGK hlt hk
      go_wp2_with fail
      go_loopg [9] n' (fun gq i wr => ∃ (q : Nat), gq = n' - q ∧ q ≤ n' ∧ i = .int .i64 q ∧ T2 w (.slice a k c) (.slice a' n' c') (.slice e k g) (.slice e' n' g') t u wr ∧ ∀ (j : Nat) (x y : POut), j < q → t.outs[j]? = some x → u.outs[j]? = some y → x = y)
      case atStart => exact ⟨0, rfl, by omega, rfl, HTB.out, fun j x y hj => absurd hj (Nat.not_lt_zero _)⟩
      case round =>
        clear c1 d1 HTB
        rename World => wp
        obtain ⟨q, hgq, hq, rfl, htb, hall⟩ := hrel
        have HGQ := Lib.hid hgq
        have HALL := Lib.hid hall
        have HTB := Lib.hid htb
        have c2 : wp.cell? ⟨w.heap.size, 2, none⟩ = some (.slice a' n' c') := cell_at htb.box1
        have d2 : wp.cell? ⟨w.heap.size + 1, 2, none⟩ = some (.slice e' n' g') := cell_at htb.box2
        clear hgq hall htb
        by_cases hlt : q < n'
        · obtain ⟨b, o, x, rfl, hx, hok, x0, x1⟩ := HTB.out.outs1.outp hlt
          obtain ⟨b2, o2, y, rfl, hy, hok2, y0, y1⟩ := HTB.out.outs2.outp hlt
          have HX := Lib.hid hx
          have HY := Lib.hid hy
          clear hx hy
          have HD := Lib.hid (show x ≠ y → sameTx t u = false from fun hne => same_no (fun h => ne_at HX.out HY.out hne (by rw [h])))
          by_cases hvl : x.val = y.val
          · rw [← hvl] at y0
            by_cases hsc : x.script = y.script
            · rw [← hsc] at y1
              have HNX := Lib.hid (same_step HALL.out HX.out HY.out (out_same hvl hsc))
              go_wp2_with fail
              go_quiet (fail)
              have HTZ := Lib.hid (HTB.out.next (w' := wp.drewN nq) ⟨rfl, rfl, rfl, Nat.le_refl _, fun _ _ => rfl⟩)
              go_wp2_with fail
              go_roundg (n' - (q + 1))
              case measure => have := HGQ.out; omega
              case rel => exact ⟨q + 1, rfl, by omega, by go_num, HTZ.out, HNX.out⟩
            · have hbe := bytes_ne hsc
              have hbe' := bytes_ne' hsc
              have HF := Lib.hid (HD.out (fun h => hsc (by rw [h])))
              go_wp2_with fail
              go_quiet (fail)
              have HTZ := Lib.hid (HTB.out.next (w' := wp.drewN nq) ⟨rfl, rfl, rfl, Nat.le_refl _, fun _ _ => rfl⟩)
              go_wp2_with fail
              go_ret
              exact ⟨ret_bool (by rw [HR.out, HF.out]), HTZ.out.bel⟩
          · have HF := Lib.hid (HD.out (fun h => hvl (by rw [h])))
            go_wp2_with fail
            go_quiet (fail)
            have HTZ := Lib.hid (HTB.out.next (w' := wp.drewN nq) ⟨rfl, rfl, rfl, Nat.le_refl _, fun _ _ => rfl⟩)
            go_wp2_with fail
            go_ret
            exact ⟨ret_bool (by rw [HR.out, HF.out]), HTZ.out.bel⟩
        · obtain rfl : q = n' := by omega
          have HF := Lib.hid (same_yes (tx_same HV.out.1 HI.out (list_same (by rw [← HN'.out, ← HM'.out]) (by rw [← HN'.out]; exact HALL.out)) HV.out.2))
          go_wp2_with fail
          go_ret
          exact ⟨ret_bool (by rw [HR.out, HF.out]), HTB.out.bel⟩
end Go.Proofs.YtmakghcoehkphaaGreat
