/-
  rec.Put: a record's bytes. Conditions: the record lies in memory, with no more than 1,000 outputs.
-/
import Derived.Test.YtaooibocknemkaaEj
import Derived.Test.YtaooibocknemkaaEl
import Derived.Test.YtaooibocknemkaaQ11RecBack
namespace Go.Proofs.Ytaooibocknemkaa
open Go.RowKit Go.BigFrame
set_option linter.unusedVariables false
set_option linter.unusedSimpArgs false
noncomputable def putE (r : PRec) : ByteArray := if checkR r = 0 then bL (putL r) else bL []
set_option maxRecDepth 100000 in
set_option maxHeartbeats 8000000 in
theorem recput_any (v1 : Value) (r : PRec) (w : World) (h1 : RecAt w v1 r) (hlen : r.tx.outs.length ≤ 1000) : Calls Try.prog 12 #[v1] w (TIs (putE r) (checkR r) w) := by
  obtain ⟨va, vb, rfl, hi1, ho1, hk1⟩ := h1
  have HI := Lib.hid hi1
  have HO := Lib.hid ho1
  have HK := Lib.hid hk1
  obtain ⟨ia, ic, rfl, -, -⟩ := hi1.shape
  obtain ⟨oa, oc, rfl, -, -⟩ := ho1.shape
  obtain ⟨n1, hn1⟩ : ∃ n, n = r.tx.ins.length := ⟨_, rfl⟩
  obtain ⟨n2, hn2⟩ : ∃ n, n = r.tx.outs.length := ⟨_, rfl⟩
  have HR := Lib.hid (show RecAt w (.agg #[.int .i64 r.kind, .int .i64 r.num, .int .u32 r.tx.ver, .slice ia n1 ic, .slice oa n2 oc, .int .u32 r.tx.lock, .int .i64 r.index, .string r.id, .int .u32 r.idx, .int .i64 r.val, .int .i64 r.br, .int .u16 r.tag, .int .u16 r.delay, .int .u32 r.height, .int .i64 r.dead, .int .i64 r.budget, .int .i64 r.start, .int .i64 r.fee]) r from ⟨_, _, by rw [hn1, hn2], hi1, ho1, hk1⟩)
  rw [← hn1, ← hn2]
  rw [← hn1] at HI
  rw [← hn2] at HO
  have HC := Lib.hid (show ∀ y : World, RecAt y (.agg #[.int .i64 r.kind, .int .i64 r.num, .int .u32 r.tx.ver, .slice ia n1 ic, .slice oa n2 oc, .int .u32 r.tx.lock, .int .i64 r.index, .string r.id, .int .u32 r.idx, .int .i64 r.val, .int .i64 r.br, .int .u16 r.tag, .int .u16 r.delay, .int .u32 r.height, .int .i64 r.dead, .int .i64 r.budget, .int .i64 r.start, .int .i64 r.fee]) r → Calls Try.prog 21 #[.agg #[.int .i64 r.kind, .int .i64 r.num, .int .u32 r.tx.ver, .slice ia n1 ic, .slice oa n2 oc, .int .u32 r.tx.lock, .int .i64 r.index, .string r.id, .int .u32 r.idx, .int .i64 r.val, .int .i64 r.br, .int .u16 r.tag, .int .u16 r.delay, .int .u32 r.height, .int .i64 r.dead, .int .i64 r.budget, .int .i64 r.start, .int .i64 r.fee]] y (CIs (checkR r) y) from fun y h => reccheck_any _ r y h hlen)
  clear HI HO HK hk1 hn1 hn2 hi1 ho1 hlen
  by_cases hc : checkR r = 0
  · have q : putE r = bL (putL r) := by unfold putE; rw [if_pos hc]
    rw [q, hc]
    rw [hc] at HC
    obtain ⟨z1, z2, z3⟩ := checkR_zero hc
    obtain ⟨p, hp⟩ : ∃ s, s = bL (payL r) := ⟨_, rfl⟩
    have qp : p.size ≤ 150105 := by rw [hp, bL_size]; exact (payL_le hc).2
    have HPY := Lib.hid (show ∀ y : World, RecAt y (.agg #[.int .i64 r.kind, .int .i64 r.num, .int .u32 r.tx.ver, .slice ia n1 ic, .slice oa n2 oc, .int .u32 r.tx.lock, .int .i64 r.index, .string r.id, .int .u32 r.idx, .int .i64 r.val, .int .i64 r.br, .int .u16 r.tag, .int .u16 r.delay, .int .u32 r.height, .int .i64 r.dead, .int .i64 r.budget, .int .i64 r.start, .int .i64 r.fee]) r → Calls Try.prog 22 #[.agg #[.int .i64 r.kind, .int .i64 r.num, .int .u32 r.tx.ver, .slice ia n1 ic, .slice oa n2 oc, .int .u32 r.tx.lock, .int .i64 r.index, .string r.id, .int .u32 r.idx, .int .i64 r.val, .int .i64 r.br, .int .u16 r.tag, .int .u16 r.delay, .int .u32 r.height, .int .i64 r.dead, .int .i64 r.budget, .int .i64 r.start, .int .i64 r.fee]] y (fun e w' => e = .returned (.string p) ∧ Below y.heap.size y w') from fun y h => by rw [hp]; exact payload_any _ r y h z1 z3)
    obtain ⟨n4, hn4⟩ : ∃ s, s = bL (leB p.size 4) := ⟨_, rfl⟩
    have q4 : n4.size = 4 := by rw [hn4, bL_size, leB_length]
    have HN4 := Lib.hid (show ∀ y : World, Calls Try.prog 23 #[.int .i64 p.size, .int .i64 4] y (fun e w' => e = .returned (.string n4) ∧ Below y.heap.size y w') from fun y => by rw [hn4]; exact recnum_any p.size 4 (by omega) (by omega) (.inr (.inr (.inl rfl))) y)
    obtain ⟨cs, hcs⟩ : ∃ n : Nat, n = (crcL (payL r)).toNat := ⟨_, rfl⟩
    have hcl : cs < 4294967296 := by rw [hcs]; exact (crcL (payL r)).isLt
    have hwc : IntKind.u64.wrap (cs : Int) = cs := by rw [IntKind.wrap_u64]; omega
    obtain ⟨c4, hc4⟩ : ∃ s, s = bL (leB cs 4) := ⟨_, rfl⟩
    have qc : c4.size = 4 := by rw [hc4, bL_size, leB_length]
    have HC4 := Lib.hid (show ∀ y : World, Calls Try.prog 24 #[.int .u64 cs, .int .i64 4] y (fun e w' => e = .returned (.string c4) ∧ Below y.heap.size y w') from fun y => by rw [hc4]; exact oput_any cs 4 (by omega) (.inr (.inr (.inl rfl))) y)
    have HSM := Lib.hid (show ∀ y : World, Calls Try.prog 8 #[.string p] y (fun e w' => e = .returned (.int .u32 cs) ∧ y = w') from fun y => by
      have e : nv (crcL p.data.toList) = (cs : Int) := by rw [hp, bL_list, hcs]; rfl
      have h := recsum_any p (by omega) y
      rw [e] at h
      exact h)
    have HS := Lib.hid (show n4 ++ c4 ++ p = bL (putL r) from by
      rw [hn4, hc4, hcs, hp, bL_size]; simp only [bL_app]; unfold putL; simp only [List.append_assoc])
    clear hc q z1 z2 z3 hp hn4 hcs hc4
    go_enter Try.func12, Try.ntmps12
    go_upto_region 1 with fail
    have hz := heap_alloc_new w (.cells #[.int .i64 r.kind, .int .i64 r.num, .int .u32 r.tx.ver, .slice ia n1 ic, .slice oa n2 oc, .int .u32 r.tx.lock, .int .i64 r.index, .string r.id, .int .u32 r.idx, .int .i64 r.val, .int .i64 r.br, .int .u16 r.tag, .int .u16 r.delay, .int .u32 r.height, .int .i64 r.dead, .int .i64 r.budget, .int .i64 r.start, .int .i64 r.fee] 38)
    have hal : Below w.heap.size w (w.alloc (.cells #[.int .i64 r.kind, .int .i64 r.num, .int .u32 r.tx.ver, .slice ia n1 ic, .slice oa n2 oc, .int .u32 r.tx.lock, .int .i64 r.index, .string r.id, .int .u32 r.idx, .int .i64 r.val, .int .i64 r.br, .int .u16 r.tag, .int .u16 r.delay, .int .u32 r.height, .int .i64 r.dead, .int .i64 r.budget, .int .i64 r.start, .int .i64 r.fee] 38)) := (Below.refl _ _).alloc (Nat.le_refl _) _
    obtain ⟨X, hX⟩ : ∃ q, q = w.heap.size := ⟨_, rfl⟩
    rw [← hX] at hz ⊢
    generalize w.alloc (.cells #[.int .i64 r.kind, .int .i64 r.num, .int .u32 r.tx.ver, .slice ia n1 ic, .slice oa n2 oc, .int .u32 r.tx.lock, .int .i64 r.index, .string r.id, .int .u32 r.idx, .int .i64 r.val, .int .i64 r.br, .int .u16 r.tag, .int .u16 r.delay, .int .u32 r.height, .int .i64 r.dead, .int .i64 r.budget, .int .i64 r.start, .int .i64 r.fee] 38) = w0 at *
    have HB := Lib.hid hal
    have HR := Lib.hid (HR.out.below hal)
    have HZ0 := Lib.hid hz
    clear hz hal hX
    go_wp2_with (first
      | (refine wpList_load_row rfl 38 (.tmp 1) rfl X rfl 38 #[.int .i64 r.kind, .int .i64 r.num, .int .u32 r.tx.ver, .slice ia n1 ic, .slice oa n2 oc, .int .u32 r.tx.lock, .int .i64 r.index, .string r.id, .int .u32 r.idx, .int .i64 r.val, .int .i64 r.br, .int .u16 r.tag, .int .u16 r.delay, .int .u32 r.height, .int .i64 r.dead, .int .i64 r.budget, .int .i64 r.start, .int .i64 r.fee] (0, 0) _ HZ0.out Try.underlying38 rfl (by kernel_rfl) ?_))
    refine (HC.out w0 HR.out).mono ?_
    rintro e w1 ⟨rfl, hb⟩
    have HB := Lib.hid (HB.out.trans (hb.mono HB.out.size))
    have HR := Lib.hid (HR.out.below hb)
    have HZ0 := Lib.hid ((hb.block X (Array.getElem?_eq_some_iff.1 HZ0.out).1).trans HZ0.out)
    clear hb HC
    go_wp2_with (first
      | (refine wpList_load_row rfl 38 (.tmp 1) rfl X rfl 38 #[.int .i64 r.kind, .int .i64 r.num, .int .u32 r.tx.ver, .slice ia n1 ic, .slice oa n2 oc, .int .u32 r.tx.lock, .int .i64 r.index, .string r.id, .int .u32 r.idx, .int .i64 r.val, .int .i64 r.br, .int .u16 r.tag, .int .u16 r.delay, .int .u32 r.height, .int .i64 r.dead, .int .i64 r.budget, .int .i64 r.start, .int .i64 r.fee] (0, 0) _ HZ0.out Try.underlying38 rfl (by kernel_rfl) ?_))
    refine (HPY.out w1 HR.out).mono ?_
    rintro e w2 ⟨rfl, hb⟩
    have HB := Lib.hid (HB.out.trans (hb.mono HB.out.size))
    clear hb HPY HR HZ0
    go_wp2_with fail
    refine (HN4.out w2).mono ?_
    rintro e w3 ⟨rfl, hb⟩
    have HB := Lib.hid (HB.out.trans (hb.mono HB.out.size))
    clear hb HN4
    go_wp2_with fail
    refine (HSM.out w3).mono ?_
    rintro e w4 ⟨rfl, rfl⟩
    go_wp2_with fail
    refine (HC4.out w3).mono ?_
    rintro e w5 ⟨rfl, hb⟩
    have HB := Lib.hid (HB.out.trans (hb.mono HB.out.size))
    clear hb HC4 HSM
    go_wp2_with fail
    exact bodyPost_ret (v := .tuple #[.string (n4 ++ c4 ++ p), .int .i64 0]) (by simp [results, Try.results12, go_sem]) rfl ⟨by rw [HS.out], HB.out⟩
  · have q : putE r = bL [] := by unfold putE; rw [if_neg hc]
    rw [q]
    obtain ⟨c, hcc⟩ : ∃ c, c = checkR r := ⟨_, rfl⟩
    rw [← hcc] at HC hc ⊢
    have cne : (c == 0) = false := by rw [beq_eq_false_iff_ne]; exact hc
    clear hc q hcc
    go_enter Try.func12, Try.ntmps12
    go_upto_region 1 with fail
    have hz := heap_alloc_new w (.cells #[.int .i64 r.kind, .int .i64 r.num, .int .u32 r.tx.ver, .slice ia n1 ic, .slice oa n2 oc, .int .u32 r.tx.lock, .int .i64 r.index, .string r.id, .int .u32 r.idx, .int .i64 r.val, .int .i64 r.br, .int .u16 r.tag, .int .u16 r.delay, .int .u32 r.height, .int .i64 r.dead, .int .i64 r.budget, .int .i64 r.start, .int .i64 r.fee] 38)
    have hal : Below w.heap.size w (w.alloc (.cells #[.int .i64 r.kind, .int .i64 r.num, .int .u32 r.tx.ver, .slice ia n1 ic, .slice oa n2 oc, .int .u32 r.tx.lock, .int .i64 r.index, .string r.id, .int .u32 r.idx, .int .i64 r.val, .int .i64 r.br, .int .u16 r.tag, .int .u16 r.delay, .int .u32 r.height, .int .i64 r.dead, .int .i64 r.budget, .int .i64 r.start, .int .i64 r.fee] 38)) := (Below.refl _ _).alloc (Nat.le_refl _) _
    obtain ⟨X, hX⟩ : ∃ q, q = w.heap.size := ⟨_, rfl⟩
    rw [← hX] at hz ⊢
    generalize w.alloc (.cells #[.int .i64 r.kind, .int .i64 r.num, .int .u32 r.tx.ver, .slice ia n1 ic, .slice oa n2 oc, .int .u32 r.tx.lock, .int .i64 r.index, .string r.id, .int .u32 r.idx, .int .i64 r.val, .int .i64 r.br, .int .u16 r.tag, .int .u16 r.delay, .int .u32 r.height, .int .i64 r.dead, .int .i64 r.budget, .int .i64 r.start, .int .i64 r.fee] 38) = w0 at *
    have HB := Lib.hid hal
    have HR := Lib.hid (HR.out.below hal)
    have HZ0 := Lib.hid hz
    clear hz hal hX
    go_wp2_with (first
      | (refine wpList_load_row rfl 38 (.tmp 1) rfl X rfl 38 #[.int .i64 r.kind, .int .i64 r.num, .int .u32 r.tx.ver, .slice ia n1 ic, .slice oa n2 oc, .int .u32 r.tx.lock, .int .i64 r.index, .string r.id, .int .u32 r.idx, .int .i64 r.val, .int .i64 r.br, .int .u16 r.tag, .int .u16 r.delay, .int .u32 r.height, .int .i64 r.dead, .int .i64 r.budget, .int .i64 r.start, .int .i64 r.fee] (0, 0) _ HZ0.out Try.underlying38 rfl (by kernel_rfl) ?_))
    refine (HC.out w0 HR.out).mono ?_
    rintro e w1 ⟨rfl, hb⟩
    have HB := Lib.hid (HB.out.trans (hb.mono HB.out.size))
    clear hb HC HR HZ0
    go_wp2_with fail
    exact bodyPost_ret (v := .tuple #[.string ⟨#[]⟩, .int .i64 c]) (by simp [results, Try.results12, go_sem]) rfl ⟨rfl, HB.out⟩
end Go.Proofs.Ytaooibocknemkaa
