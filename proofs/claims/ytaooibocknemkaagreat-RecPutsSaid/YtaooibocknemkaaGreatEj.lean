/-
  rec.Check: may a record be? Conditions: the record lies in memory, with no more than 1,000 outputs.
-/
import Derived.Test.YtaooibocknemkaaGreatQ9RecPuts
import Derived.Test.YtaooibocknemkaaGreatEi
namespace Go.Proofs.YtaooibocknemkaaGreat
open Go.RowKit Go.BigFrame
open Go.Lib (hid)
set_option linter.unusedVariables false
set_option linter.unusedSimpArgs false
theorem own_at {r : PRec} (h : ownR r = r) : (r.kind ≠ 1 → r.tx = noTx ∧ (r.kind ≠ 4 → r.index = 0)) ∧ (r.kind ≠ 2 → r.val = 0) ∧ (r.kind ≠ 1 → r.kind ≠ 2 → r.br = 0 ∧ r.height = 0 ∧ r.dead = 0 ∧ r.budget = 0 ∧ r.start = 0) ∧ (r.kind ≠ 4 → r.fee = 0) := by
  unfold ownR noRec at h
  split at h
  · rename_i k
    refine ⟨fun e => absurd k e, fun _ => by rw [← h], fun e => absurd k e, fun _ => by rw [← h]⟩
  · rename_i k1
    split at h
    · rename_i k
      refine ⟨fun _ => ⟨by rw [← h], fun _ => by rw [← h]⟩, fun e => absurd k e, fun _ e => absurd k e, fun _ => by rw [← h]⟩
    · rename_i k2
      split at h
      · refine ⟨fun _ => ⟨by rw [← h], fun _ => by rw [← h]⟩, fun _ => by rw [← h], fun _ _ => ?_, fun _ => by rw [← h]⟩
        rw [← h]; exact ⟨rfl, rfl, rfl, rfl, rfl⟩
      · rename_i k3
        split at h
        · rename_i k
          refine ⟨fun _ => ⟨by rw [← h], fun e => absurd k e⟩, fun _ => by rw [← h], fun _ _ => ?_, fun e => absurd k e⟩
          rw [← h]; exact ⟨rfl, rfl, rfl, rfl, rfl⟩
        · refine ⟨fun _ => ⟨by rw [← h], fun _ => by rw [← h]⟩, fun _ => by rw [← h], fun _ _ => ?_, fun _ => by rw [← h]⟩
          rw [← h]; exact ⟨rfl, rfl, rfl, rfl, rfl⟩
theorem askedB_iff (r : PRec) : askedB r = true ↔ (0 ≤ r.br ∧ r.br ≤ 2) ∧ r.height ≤ 1000000 ∧ (0 ≤ r.dead ∧ r.dead ≤ 1000000) ∧ (0 ≤ r.start ∧ r.start ≤ 1000000) ∧ money r.budget ∧ money r.val := by
  unfold askedB money
  simp only [Bool.and_eq_true, decide_eq_true_eq, hgt_iff, goodA_iff]
  omega
theorem ranged_iff {r : PRec} (hk : kinded r) (ho : ownR r = r) : rangedB r = true ↔ Ranged r := by
  obtain ⟨o1, o2, o3, o4⟩ := own_at ho
  have hkk : 1 ≤ r.kind ∧ r.kind ≤ 5 := hk
  constructor
  · intro h
    unfold rangedB at h
    split at h
    · cases h
    split at h
    · cases h
    rename_i n1 n2
    split at h
    · rename_i k
      simp only [Bool.and_eq_true, decide_eq_true_eq, beq_iff_eq, askedB_iff] at h
      have f := o4 (by omega)
      obtain ⟨⟨⟨⟨h1, h2, h3, h4, h5, h6⟩, h7⟩, h8⟩, h9⟩ := h
      exact ⟨⟨by omega, by omega⟩, h1, h2, h3, h4, h5, h6, by unfold money; omega, fun _ => by omega, fun _ => by omega, fun _ => ⟨h7, h8, h9⟩⟩
    rename_i k1
    split at h
    · rename_i k
      simp only [Bool.and_eq_true, beq_iff_eq, askedB_iff] at h
      have f := o4 (by omega)
      obtain ⟨⟨h1, h2, h3, h4, h5, h6⟩, h7⟩ := h
      exact ⟨⟨by omega, by omega⟩, h1, h2, h3, h4, h5, h6, by unfold money; omega, fun _ _ => by omega, fun _ => by omega, fun e => absurd e k1⟩
    rename_i k2
    obtain ⟨z1, z2, z3, z4, z5⟩ := o3 k1 k2
    have z6 := o2 k2
    split at h
    · rename_i k
      simp only [beq_iff_eq] at h
      have f := o4 (by omega)
      exact ⟨⟨by omega, by omega⟩, by omega, by omega, by omega, by omega, by unfold money; omega, by unfold money; omega, by unfold money; omega, fun _ _ => by omega, fun _ => by omega, fun e => absurd e k1⟩
    rename_i k3
    split at h
    · rename_i k
      simp only [Bool.and_eq_true, decide_eq_true_eq, beq_iff_eq, goodA_iff] at h
      obtain ⟨⟨⟨h1, h2⟩, h3⟩, h4⟩ := h
      exact ⟨⟨by omega, by omega⟩, by omega, by omega, by omega, by omega, by unfold money; omega, by unfold money; omega, h4, fun _ _ => by omega, fun _ => ⟨h2, h3⟩, fun e => absurd e k1⟩
    rename_i k4
    have f := o4 k4
    exact ⟨⟨by omega, by omega⟩, by omega, by omega, by omega, by omega, by unfold money; omega, by unfold money; omega, by unfold money; omega, fun _ _ => by omega, fun _ => by omega, fun e => absurd e k1⟩
  · intro h
    unfold rangedB
    rw [if_neg (by have := h.num; omega), if_neg (by have := h.num; omega)]
    have ha : askedB r = true := (askedB_iff r).2 ⟨h.br, h.height, h.dead, h.start, h.budget, h.val⟩
    split
    · rename_i k
      obtain ⟨c1, c2, c3⟩ := h.com k
      rw [ha, c1, decide_eq_true c2, decide_eq_true c3]; rfl
    split
    · rename_i k
      have := h.id (by omega) (by omega)
      rw [ha, this]; rfl
    split
    · rename_i k
      have := h.id (by omega) (by omega)
      rw [this]; rfl
    split
    · rename_i k
      have := h.id (by omega) (by omega)
      obtain ⟨c1, c2⟩ := h.bid k
      rw [this, decide_eq_true c1, decide_eq_true c2, (goodA_iff r.fee).2 h.fee]; rfl
    rfl
set_option maxRecDepth 100000 in
set_option maxHeartbeats 8000000 in
theorem reccheck_any (v1 : Value) (r : PRec) (w : World) (h1 : RecAt w v1 r) (hlen : r.tx.outs.length ≤ 1000) : Calls Tryz.prog 12 #[v1] w (CIs (checkR r) w) := by
  have HP := hid (fun (y : World) (h : Below w.heap.size w y) => plain_any v1 r y (h1.below h))
  have HR := hid (fun (y : World) (h : Below w.heap.size w y) => ranged_any v1 r y (h1.below h) hlen)
  have HE := hid (fun (y : World) (v : Value) (q : PRec) (h : Below w.heap.size w y) (hq : RecAt y v q) => recequal_any v v1 q r y hq (h1.below h))
  obtain ⟨q, hq⟩ : ∃ q, q = ownR r := ⟨_, rfl⟩
  rw [← hq] at HP
  obtain ⟨kb, hkb⟩ : ∃ b, b = decide (1 ≤ r.kind ∧ r.kind ≤ 5) := ⟨_, rfl⟩
  rw [← hkb] at HP
  obtain ⟨rb, hrb⟩ : ∃ b, b = rangedB r := ⟨_, rfl⟩
  rw [← hrb] at HR
  obtain ⟨sb, hsb⟩ : ∃ b, b = sameR q r := ⟨_, rfl⟩
  obtain ⟨A0, hA⟩ : ∃ c, c = checkR r := ⟨_, rfl⟩
  rw [← hA]
  have HV := hid (show A0 = if kb = false then 2 else if sb = false then 4 else if rb = false then 3 else 0 from by
    by_cases k : 1 ≤ r.kind ∧ r.kind ≤ 5
    · rw [decide_eq_true k] at hkb
      rw [hkb, if_neg (by decide)]
      by_cases s : q = r
      · rw [sameR_yes s] at hsb
        rw [hsb, if_neg (by decide), hA]
        cases rb
        · rw [if_pos rfl]
          exact checkR_range k (hq ▸ s) (fun e => by have := (ranged_iff k (hq ▸ s)).2 e; rw [← hrb] at this; cases this)
        · rw [if_neg (by decide)]
          exact checkR_ok k (hq ▸ s) ((ranged_iff k (hq ▸ s)).1 hrb.symm)
      · rw [sameR_no s] at hsb
        rw [hsb, if_pos rfl, hA]
        exact checkR_form k (hq ▸ s)
    · rw [decide_eq_false k] at hkb
      rw [hkb, if_pos rfl, hA]
      exact checkR_bad k)
  have HS := hid hsb
  clear hq hkb hrb hA hsb
  obtain ⟨va, vb, rfl, hi1, ho1, hk1⟩ := h1
  obtain ⟨ia, ic, rfl, -, -⟩ := hi1.shape
  obtain ⟨oa, oc, rfl, -, -⟩ := ho1.shape
  obtain ⟨n1, hn1⟩ : ∃ n, n = r.tx.ins.length := ⟨_, rfl⟩
  obtain ⟨n2, hn2⟩ : ∃ n, n = r.tx.outs.length := ⟨_, rfl⟩
  rw [← hn1, ← hn2] at HP HR HE ⊢
  clear hi1 ho1 hk1 hn1 hn2 hlen
  go_enter Tryz.func12, Tryz.ntmps12
  go_upto_region 1 with fail
  have hz := heap_alloc_new w (.cells #[.int .i64 r.kind, .int .i64 r.num, .int .u32 r.tx.ver, .slice ia n1 ic, .slice oa n2 oc, .int .u32 r.tx.lock, .int .i64 r.index, .string r.id, .int .u32 r.idx, .int .i64 r.val, .int .i64 r.br, .int .u16 r.tag, .int .u16 r.delay, .int .u32 r.height, .int .i64 r.dead, .int .i64 r.budget, .int .i64 r.start, .int .i64 r.fee] 35)
  have hal : Below w.heap.size w (w.alloc (.cells #[.int .i64 r.kind, .int .i64 r.num, .int .u32 r.tx.ver, .slice ia n1 ic, .slice oa n2 oc, .int .u32 r.tx.lock, .int .i64 r.index, .string r.id, .int .u32 r.idx, .int .i64 r.val, .int .i64 r.br, .int .u16 r.tag, .int .u16 r.delay, .int .u32 r.height, .int .i64 r.dead, .int .i64 r.budget, .int .i64 r.start, .int .i64 r.fee] 35)) := (Below.refl _ _).alloc (Nat.le_refl _) _
  obtain ⟨X, hX⟩ : ∃ q, q = w.heap.size := ⟨_, rfl⟩
  rw [← hX] at hz ⊢
  generalize w.alloc (.cells #[.int .i64 r.kind, .int .i64 r.num, .int .u32 r.tx.ver, .slice ia n1 ic, .slice oa n2 oc, .int .u32 r.tx.lock, .int .i64 r.index, .string r.id, .int .u32 r.idx, .int .i64 r.val, .int .i64 r.br, .int .u16 r.tag, .int .u16 r.delay, .int .u32 r.height, .int .i64 r.dead, .int .i64 r.budget, .int .i64 r.start, .int .i64 r.fee] 35) = w0 at *
  have HB := hid hal
  have HZ0 := hid hz
  clear hz hal hX
  go_wp2_with (first
    | (refine wpList_load_row rfl 35 (.tmp 1) rfl (X) rfl 35 _ (0, 0) _ HZ0.out Tryz.underlying35 rfl (by kernel_rfl) ?_))
  refine (HP.out w0 HB.out).mono ?_
  rintro e w1 ⟨v, rfl, hv, hb⟩
  have HB := hid (HB.out.trans (hb.mono HB.out.size))
  have HZ0 := hid ((hb.block X (Array.getElem?_eq_some_iff.1 HZ0.out).1).trans HZ0.out)
  clear hb
  have HE := hid (HE.out · v q · ·)
  have HVV := hid hv
  obtain ⟨va, vb, rfl, hi2, ho2, hk2⟩ := hv
  obtain ⟨ja, jc, rfl, -, -⟩ := hi2.shape
  obtain ⟨pa, pc, rfl, -, -⟩ := ho2.shape
  obtain ⟨m1, hm1⟩ : ∃ n, n = q.tx.ins.length := ⟨_, rfl⟩
  obtain ⟨m2, hm2⟩ : ∃ n, n = q.tx.outs.length := ⟨_, rfl⟩
  rw [← hm1, ← hm2] at HE HVV ⊢
  clear hi2 ho2 hk2 hm1 hm2
  go_upto_region 2 with fail
  have hz := heap_alloc_new w1 (.cells #[.int .i64 q.kind, .int .i64 q.num, .int .u32 q.tx.ver, .slice ja m1 jc, .slice pa m2 pc, .int .u32 q.tx.lock, .int .i64 q.index, .string q.id, .int .u32 q.idx, .int .i64 q.val, .int .i64 q.br, .int .u16 q.tag, .int .u16 q.delay, .int .u32 q.height, .int .i64 q.dead, .int .i64 q.budget, .int .i64 q.start, .int .i64 q.fee] 35)
  have hal : Below w1.heap.size w1 (w1.alloc (.cells #[.int .i64 q.kind, .int .i64 q.num, .int .u32 q.tx.ver, .slice ja m1 jc, .slice pa m2 pc, .int .u32 q.tx.lock, .int .i64 q.index, .string q.id, .int .u32 q.idx, .int .i64 q.val, .int .i64 q.br, .int .u16 q.tag, .int .u16 q.delay, .int .u32 q.height, .int .i64 q.dead, .int .i64 q.budget, .int .i64 q.start, .int .i64 q.fee] 35)) := (Below.refl _ _).alloc (Nat.le_refl _) _
  obtain ⟨Y, hY⟩ : ∃ q, q = w1.heap.size := ⟨_, rfl⟩
  rw [← hY] at hz ⊢
  generalize w1.alloc (.cells #[.int .i64 q.kind, .int .i64 q.num, .int .u32 q.tx.ver, .slice ja m1 jc, .slice pa m2 pc, .int .u32 q.tx.lock, .int .i64 q.index, .string q.id, .int .u32 q.idx, .int .i64 q.val, .int .i64 q.br, .int .u16 q.tag, .int .u16 q.delay, .int .u32 q.height, .int .i64 q.dead, .int .i64 q.budget, .int .i64 q.start, .int .i64 q.fee] 35) = w2 at *
  have HZ0 := hid ((hal.block X (Array.getElem?_eq_some_iff.1 HZ0.out).1).trans HZ0.out)
  have HVV := hid (HVV.out.below hal)
  have HB := hid (HB.out.trans (hal.mono HB.out.size))
  have HZ1 := hid hz
  clear hz hal hY
  cases kb
  · go_wp2_with fail
    go_ret
    exact ⟨by rw [HV.out]; rfl, HB.out⟩
  have HE := hid (HE.out w2 HB.out HVV.out)
  have HS2 := HS.out
  rw [← HS2] at HE
  clear HS2
  go_wp2_with (first
    | (refine wpList_load_row rfl 35 (.tmp 1) rfl (X) rfl 35 _ (0, 0) _ HZ0.out Tryz.underlying35 rfl (by kernel_rfl) ?_)
    | (refine wpList_load_row rfl 35 (.tmp 3) rfl (Y) rfl 35 _ (0, 0) _ HZ1.out Tryz.underlying35 rfl (by kernel_rfl) ?_))
  refine HE.out.mono ?_
  rintro e w3 ⟨rfl, hb⟩
  have HZ0 := hid ((hb.block X (Array.getElem?_eq_some_iff.1 HZ0.out).1).trans HZ0.out)
  have HB := hid (HB.out.trans (hb.mono HB.out.size))
  clear hb HE HZ1 HVV
  cases sb
  · go_wp2_with fail
    go_ret
    exact ⟨by rw [HV.out]; rfl, HB.out⟩
  go_wp2_with (first
    | (refine wpList_load_row rfl 35 (.tmp 1) rfl (X) rfl 35 _ (0, 0) _ HZ0.out Tryz.underlying35 rfl (by kernel_rfl) ?_))
  refine (HR.out w3 HB.out).mono ?_
  rintro e w4 ⟨rfl, hb⟩
  have HB := hid (HB.out.trans (hb.mono HB.out.size))
  cases rb
  · go_wp2_with fail
    go_ret
    exact ⟨by rw [HV.out]; rfl, HB.out⟩
  go_wp2_with fail
  go_ret
  exact ⟨by rw [HV.out]; rfl, HB.out⟩
end Go.Proofs.YtaooibocknemkaaGreat
