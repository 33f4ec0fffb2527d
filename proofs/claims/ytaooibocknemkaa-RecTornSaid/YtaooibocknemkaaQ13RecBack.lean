/-
  RecBack, part 13: the texts El, Em, Ex, Ez, Ez2, one after another. Conditions: none beyond those named at each.
-/
import Derived.Test.YtaooibocknemkaaEl1
import Derived.Test.YtaooibocknemkaaEl2
import Derived.Test.YtaooibocknemkaaEl3
import Derived.Test.YtaooibocknemkaaEl4
import Derived.Test.YtaooibocknemkaaEj
import Derived.Test.YtaooibocknemkaaQ11RecBack
import Derived.Test.YtaooibocknemkaaEu
import Derived.Test.YtaooibocknemkaaQ1RecBack
import Derived.Test.YtaooibocknemkaaEw2
import Derived.Test.YtaooibocknemkaaEz1
section
/-
  rec.payload. Conditions: the record lies in memory and may be.
-/
namespace Go.Proofs.Ytaooibocknemkaa
open Go.RowKit Go.BigFrame
set_option linter.unusedVariables false
set_option linter.unusedSimpArgs false
theorem payload_any (v1 : Value) (r : PRec) (w : World) (h1 : RecAt w v1 r) (hk : kinded r) (hg : Ranged r) : Calls Try.prog 22 #[v1] w (SIs (payL r) w) := by
  by_cases k1 : r.kind = 1
  · exact pay_k1 v1 r w h1 hg k1
  by_cases k2 : r.kind = 2
  · exact pay_k2 v1 r w h1 hg k2
  by_cases k3 : r.kind = 3
  · exact pay_k3 v1 r w h1 hg k3
  by_cases k4 : r.kind = 4
  · exact pay_k4 v1 r w h1 hg k4
  exact pay_k5 v1 r w h1 hg (by have := hk.1; have := hk.2; omega)
end Go.Proofs.Ytaooibocknemkaa
end

section
/-
  rec.Put: a record's bytes. Conditions: the record lies in memory, with no more than 1,000 outputs.
-/
namespace Go.Proofs.Ytaooibocknemkaa
open Go.RowKit Go.BigFrame
set_option linter.unusedVariables false
set_option linter.unusedSimpArgs false
noncomputable def putE (r : PRec) : ByteArray := if checkR r = 0 then bL (putL r) else bL []
set_option maxRecDepth 100000 in
set_option maxHeartbeats 8000000 in
theorem recput_any (v1 : Value) (r : PRec) (w : World) (h1 : RecAt w v1 r) (hlen : r.tx.outs.length ≤ 1000) : Calls Try.prog 12 #[v1] w (TIs (putE r) (checkR r) w) := by
  obtain ⟨va, vb, rfl, hi1, ho1, hk1⟩ := h1
  have HI := Lib.hid hi1
  have HO := Lib.hid ho1
  have HK := Lib.hid hk1
  obtain ⟨ia, ic, rfl, -, -⟩ := hi1.shape
  obtain ⟨oa, oc, rfl, -, -⟩ := ho1.shape
  obtain ⟨n1, hn1⟩ : ∃ n, n = r.tx.ins.length := ⟨_, rfl⟩
  obtain ⟨n2, hn2⟩ : ∃ n, n = r.tx.outs.length := ⟨_, rfl⟩
  have HR := Lib.hid (show RecAt w (.agg #[.int .i64 r.kind, .int .i64 r.num, .int .u32 r.tx.ver, .slice ia n1 ic, .slice oa n2 oc, .int .u32 r.tx.lock, .int .i64 r.index, .string r.id, .int .u32 r.idx, .int .i64 r.val, .int .i64 r.br, .int .u16 r.tag, .int .u16 r.delay, .int .u32 r.height, .int .i64 r.dead, .int .i64 r.budget, .int .i64 r.start, .int .i64 r.fee]) r from ⟨_, _, by rw [hn1, hn2], hi1, ho1, hk1⟩)
  rw [← hn1, ← hn2]
  rw [← hn1] at HI
  rw [← hn2] at HO
  have HC := Lib.hid (show ∀ y : World, RecAt y (.agg #[.int .i64 r.kind, .int .i64 r.num, .int .u32 r.tx.ver, .slice ia n1 ic, .slice oa n2 oc, .int .u32 r.tx.lock, .int .i64 r.index, .string r.id, .int .u32 r.idx, .int .i64 r.val, .int .i64 r.br, .int .u16 r.tag, .int .u16 r.delay, .int .u32 r.height, .int .i64 r.dead, .int .i64 r.budget, .int .i64 r.start, .int .i64 r.fee]) r → Calls Try.prog 21 #[.agg #[.int .i64 r.kind, .int .i64 r.num, .int .u32 r.tx.ver, .slice ia n1 ic, .slice oa n2 oc, .int .u32 r.tx.lock, .int .i64 r.index, .string r.id, .int .u32 r.idx, .int .i64 r.val, .int .i64 r.br, .int .u16 r.tag, .int .u16 r.delay, .int .u32 r.height, .int .i64 r.dead, .int .i64 r.budget, .int .i64 r.start, .int .i64 r.fee]] y (CIs (checkR r) y) from fun y h => reccheck_any _ r y h hlen)
  clear HI HO HK hk1 hn1 hn2 hi1 ho1 hlen
  by_cases hc : checkR r = 0
  · have q : putE r = bL (putL r) := by unfold putE; rw [if_pos hc]
    rw [q, hc]
    rw [hc] at HC
    obtain ⟨z1, z2, z3⟩ := checkR_zero hc
    obtain ⟨p, hp⟩ : ∃ s, s = bL (payL r) := ⟨_, rfl⟩
    have qp : p.size ≤ 150105 := by rw [hp, bL_size]; exact (payL_le hc).2
    have HPY := Lib.hid (show ∀ y : World, RecAt y (.agg #[.int .i64 r.kind, .int .i64 r.num, .int .u32 r.tx.ver, .slice ia n1 ic, .slice oa n2 oc, .int .u32 r.tx.lock, .int .i64 r.index, .string r.id, .int .u32 r.idx, .int .i64 r.val, .int .i64 r.br, .int .u16 r.tag, .int .u16 r.delay, .int .u32 r.height, .int .i64 r.dead, .int .i64 r.budget, .int .i64 r.start, .int .i64 r.fee]) r → Calls Try.prog 22 #[.agg #[.int .i64 r.kind, .int .i64 r.num, .int .u32 r.tx.ver, .slice ia n1 ic, .slice oa n2 oc, .int .u32 r.tx.lock, .int .i64 r.index, .string r.id, .int .u32 r.idx, .int .i64 r.val, .int .i64 r.br, .int .u16 r.tag, .int .u16 r.delay, .int .u32 r.height, .int .i64 r.dead, .int .i64 r.budget, .int .i64 r.start, .int .i64 r.fee]] y (fun e w' => e = .returned (.string p) ∧ Below y.heap.size y w') from fun y h => by rw [hp]; exact payload_any _ r y h z1 z3)
    obtain ⟨n4, hn4⟩ : ∃ s, s = bL (leB p.size 4) := ⟨_, rfl⟩
    have q4 : n4.size = 4 := by rw [hn4, bL_size, leB_length]
    have HN4 := Lib.hid (show ∀ y : World, Calls Try.prog 23 #[.int .i64 p.size, .int .i64 4] y (fun e w' => e = .returned (.string n4) ∧ Below y.heap.size y w') from fun y => by rw [hn4]; exact recnum_any p.size 4 (by omega) (by omega) (.inr (.inr (.inl rfl))) y)
    obtain ⟨cs, hcs⟩ : ∃ n : Nat, n = (crcL (payL r)).toNat := ⟨_, rfl⟩
    have hcl : cs < 4294967296 := by rw [hcs]; exact (crcL (payL r)).isLt
    have hwc : IntKind.u64.wrap (cs : Int) = cs := by rw [IntKind.wrap_u64]; omega
    obtain ⟨c4, hc4⟩ : ∃ s, s = bL (leB cs 4) := ⟨_, rfl⟩
    have qc : c4.size = 4 := by rw [hc4, bL_size, leB_length]
    have HC4 := Lib.hid (show ∀ y : World, Calls Try.prog 24 #[.int .u64 cs, .int .i64 4] y (fun e w' => e = .returned (.string c4) ∧ Below y.heap.size y w') from fun y => by rw [hc4]; exact oput_any cs 4 (by omega) (.inr (.inr (.inl rfl))) y)
    have HSM := Lib.hid (show ∀ y : World, Calls Try.prog 8 #[.string p] y (fun e w' => e = .returned (.int .u32 cs) ∧ y = w') from fun y => by
      have e : nv (crcL p.data.toList) = (cs : Int) := by rw [hp, bL_list, hcs]; rfl
      have h := recsum_any p (by omega) y
      rw [e] at h
      exact h)
    have HS := Lib.hid (show n4 ++ c4 ++ p = bL (putL r) from by
      rw [hn4, hc4, hcs, hp, bL_size]; simp only [bL_app]; unfold putL; simp only [List.append_assoc])
    clear hc q z1 z2 z3 hp hn4 hcs hc4
    go_enter Try.func12, Try.ntmps12
    go_upto_region 1 with fail
    have hz := heap_alloc_new w (.cells #[.int .i64 r.kind, .int .i64 r.num, .int .u32 r.tx.ver, .slice ia n1 ic, .slice oa n2 oc, .int .u32 r.tx.lock, .int .i64 r.index, .string r.id, .int .u32 r.idx, .int .i64 r.val, .int .i64 r.br, .int .u16 r.tag, .int .u16 r.delay, .int .u32 r.height, .int .i64 r.dead, .int .i64 r.budget, .int .i64 r.start, .int .i64 r.fee] 38)
    have hal : Below w.heap.size w (w.alloc (.cells #[.int .i64 r.kind, .int .i64 r.num, .int .u32 r.tx.ver, .slice ia n1 ic, .slice oa n2 oc, .int .u32 r.tx.lock, .int .i64 r.index, .string r.id, .int .u32 r.idx, .int .i64 r.val, .int .i64 r.br, .int .u16 r.tag, .int .u16 r.delay, .int .u32 r.height, .int .i64 r.dead, .int .i64 r.budget, .int .i64 r.start, .int .i64 r.fee] 38)) := (Below.refl _ _).alloc (Nat.le_refl _) _
    obtain ⟨X, hX⟩ : ∃ q, q = w.heap.size := ⟨_, rfl⟩
    rw [← hX] at hz ⊢
    generalize w.alloc (.cells #[.int .i64 r.kind, .int .i64 r.num, .int .u32 r.tx.ver, .slice ia n1 ic, .slice oa n2 oc, .int .u32 r.tx.lock, .int .i64 r.index, .string r.id, .int .u32 r.idx, .int .i64 r.val, .int .i64 r.br, .int .u16 r.tag, .int .u16 r.delay, .int .u32 r.height, .int .i64 r.dead, .int .i64 r.budget, .int .i64 r.start, .int .i64 r.fee] 38) = w0 at *
    have HB := Lib.hid hal
    have HR := Lib.hid (HR.out.below hal)
    have HZ0 := Lib.hid hz
    clear hz hal hX
    go_wp2_with (first
      | (refine wpList_load_row rfl 38 (.tmp 1) rfl X rfl 38 #[.int .i64 r.kind, .int .i64 r.num, .int .u32 r.tx.ver, .slice ia n1 ic, .slice oa n2 oc, .int .u32 r.tx.lock, .int .i64 r.index, .string r.id, .int .u32 r.idx, .int .i64 r.val, .int .i64 r.br, .int .u16 r.tag, .int .u16 r.delay, .int .u32 r.height, .int .i64 r.dead, .int .i64 r.budget, .int .i64 r.start, .int .i64 r.fee] (0, 0) _ HZ0.out Try.underlying38 rfl (by kernel_rfl) ?_))
    refine (HC.out w0 HR.out).mono ?_
    rintro e w1 ⟨rfl, hb⟩
    have HB := Lib.hid (HB.out.trans (hb.mono HB.out.size))
    have HR := Lib.hid (HR.out.below hb)
    have HZ0 := Lib.hid ((hb.block X (Array.getElem?_eq_some_iff.1 HZ0.out).1).trans HZ0.out)
    clear hb HC
    go_wp2_with (first
      | (refine wpList_load_row rfl 38 (.tmp 1) rfl X rfl 38 #[.int .i64 r.kind, .int .i64 r.num, .int .u32 r.tx.ver, .slice ia n1 ic, .slice oa n2 oc, .int .u32 r.tx.lock, .int .i64 r.index, .string r.id, .int .u32 r.idx, .int .i64 r.val, .int .i64 r.br, .int .u16 r.tag, .int .u16 r.delay, .int .u32 r.height, .int .i64 r.dead, .int .i64 r.budget, .int .i64 r.start, .int .i64 r.fee] (0, 0) _ HZ0.out Try.underlying38 rfl (by kernel_rfl) ?_))
    refine (HPY.out w1 HR.out).mono ?_
    rintro e w2 ⟨rfl, hb⟩
    have HB := Lib.hid (HB.out.trans (hb.mono HB.out.size))
    clear hb HPY HR HZ0
    go_wp2_with fail
    refine (HN4.out w2).mono ?_
    rintro e w3 ⟨rfl, hb⟩
    have HB := Lib.hid (HB.out.trans (hb.mono HB.out.size))
    clear hb HN4
    go_wp2_with fail
    refine (HSM.out w3).mono ?_
    rintro e w4 ⟨rfl, rfl⟩
    go_wp2_with fail
    refine (HC4.out w3).mono ?_
    rintro e w5 ⟨rfl, hb⟩
    have HB := Lib.hid (HB.out.trans (hb.mono HB.out.size))
    clear hb HC4 HSM
    go_wp2_with fail
    exact bodyPost_ret (v := .tuple #[.string (n4 ++ c4 ++ p), .int .i64 0]) (by simp [results, Try.results12, go_sem]) rfl ⟨by rw [HS.out], HB.out⟩
  · have q : putE r = bL [] := by unfold putE; rw [if_neg hc]
    rw [q]
    obtain ⟨c, hcc⟩ : ∃ c, c = checkR r := ⟨_, rfl⟩
    rw [← hcc] at HC hc ⊢
    have cne : (c == 0) = false := by rw [beq_eq_false_iff_ne]; exact hc
    clear hc q hcc
    go_enter Try.func12, Try.ntmps12
    go_upto_region 1 with fail
    have hz := heap_alloc_new w (.cells #[.int .i64 r.kind, .int .i64 r.num, .int .u32 r.tx.ver, .slice ia n1 ic, .slice oa n2 oc, .int .u32 r.tx.lock, .int .i64 r.index, .string r.id, .int .u32 r.idx, .int .i64 r.val, .int .i64 r.br, .int .u16 r.tag, .int .u16 r.delay, .int .u32 r.height, .int .i64 r.dead, .int .i64 r.budget, .int .i64 r.start, .int .i64 r.fee] 38)
    have hal : Below w.heap.size w (w.alloc (.cells #[.int .i64 r.kind, .int .i64 r.num, .int .u32 r.tx.ver, .slice ia n1 ic, .slice oa n2 oc, .int .u32 r.tx.lock, .int .i64 r.index, .string r.id, .int .u32 r.idx, .int .i64 r.val, .int .i64 r.br, .int .u16 r.tag, .int .u16 r.delay, .int .u32 r.height, .int .i64 r.dead, .int .i64 r.budget, .int .i64 r.start, .int .i64 r.fee] 38)) := (Below.refl _ _).alloc (Nat.le_refl _) _
    obtain ⟨X, hX⟩ : ∃ q, q = w.heap.size := ⟨_, rfl⟩
    rw [← hX] at hz ⊢
    generalize w.alloc (.cells #[.int .i64 r.kind, .int .i64 r.num, .int .u32 r.tx.ver, .slice ia n1 ic, .slice oa n2 oc, .int .u32 r.tx.lock, .int .i64 r.index, .string r.id, .int .u32 r.idx, .int .i64 r.val, .int .i64 r.br, .int .u16 r.tag, .int .u16 r.delay, .int .u32 r.height, .int .i64 r.dead, .int .i64 r.budget, .int .i64 r.start, .int .i64 r.fee] 38) = w0 at *
    have HB := Lib.hid hal
    have HR := Lib.hid (HR.out.below hal)
    have HZ0 := Lib.hid hz
    clear hz hal hX
    go_wp2_with (first
      | (refine wpList_load_row rfl 38 (.tmp 1) rfl X rfl 38 #[.int .i64 r.kind, .int .i64 r.num, .int .u32 r.tx.ver, .slice ia n1 ic, .slice oa n2 oc, .int .u32 r.tx.lock, .int .i64 r.index, .string r.id, .int .u32 r.idx, .int .i64 r.val, .int .i64 r.br, .int .u16 r.tag, .int .u16 r.delay, .int .u32 r.height, .int .i64 r.dead, .int .i64 r.budget, .int .i64 r.start, .int .i64 r.fee] (0, 0) _ HZ0.out Try.underlying38 rfl (by kernel_rfl) ?_))
    refine (HC.out w0 HR.out).mono ?_
    rintro e w1 ⟨rfl, hb⟩
    have HB := Lib.hid (HB.out.trans (hb.mono HB.out.size))
    clear hb HC HR HZ0
    go_wp2_with fail
    exact bodyPost_ret (v := .tuple #[.string ⟨#[]⟩, .int .i64 c]) (by simp [results, Try.results12, go_sem]) rfl ⟨rfl, HB.out⟩
end Go.Proofs.Ytaooibocknemkaa
end

section
/-
  What the document fixes of records. Conditions: none.
-/
namespace Go.Proofs.Ytaooibocknemkaa
open Go.RowKit Go.BigFrame
set_option linter.unusedVariables false
set_option linter.unusedSimpArgs false
theorem wpList_load_row_g {P : Program} {ops : Array Oper} {rest : List Oper} {o : Oper} {a : Act} {w : World} {Q : Exit → Act → World → Prop} (ty : TypeId) (x : Operand) (ho : o.op = .load ty x)
    (g : Nat) (hx : a.eval x = .pointer (some ⟨g, 0, none⟩)) (t : TypeId) (cs : Array Value) (fr : Nat × Nat) (d : TypeDesc) (hg : w.heap[g]? = some (.cells cs t fr))
    (hu : P.underlying ty = some d) (hd : (match d with | .struct _ | .array _ _ => true | _ => false) = true) (hi : (P.info? ty).map (·.size) = some cs.size) (hw : Region.wanted o (yielded ops a.tmps) = true)
    (h : wpList P ops Q rest (a.put o.dst (.agg cs)) w) : wpList P ops Q (o :: rest) a w := by
  unfold wpList
  rw [if_pos hw]
  exact .inl (Go.wp_load_row ty x ho g hx t cs fr d hg hu hd hi h)
def rec7 : PRec := { noRec with kind := 5, num := 7 }
theorem rec7_check : checkR rec7 = 0 := by
  refine checkR_ok ⟨by decide, by decide⟩ ?_ ?_
  · unfold ownR
    rw [if_neg (by decide), if_neg (by decide), if_neg (by decide), if_neg (by decide)]
    rfl
  · refine (ranged_iff ⟨by decide, by decide⟩ ?_).1 ?_
    · unfold ownR
      rw [if_neg (by decide), if_neg (by decide), if_neg (by decide), if_neg (by decide)]
      rfl
    · decide
theorem rec7_len : (putL rec7).length = 13 := by
  rw [putL_len]
  unfold payL bodyL
  rw [if_neg (by decide), if_neg (by decide), if_neg (by decide), if_neg (by decide)]
  simp [leB_length]
theorem noRec_check : checkR noRec = 2 := checkR_bad (fun h => absurd h.1 (by decide))
theorem rec7_ok : rec7.Ok := by
  have z := i64R0
  exact ⟨⟨by decide, by decide⟩, ⟨by decide, by decide⟩, z32, z32, z, zid, z32, z, z, z16, z16, z32, z, z, z, z⟩
theorem rec7_at (w : World) : RecAt w (.agg #[.int .i64 5, .int .i64 7, .int .u32 0, .slice none 0 0, .slice none 0 0, .int .u32 0, .int .i64 0, .string ⟨#[]⟩, .int .u32 0, .int .i64 0, .int .i64 0, .int .u16 0, .int .u16 0, .int .u32 0, .int .i64 0, .int .i64 0, .int .i64 0, .int .i64 0]) rec7 := ⟨.slice none 0 0, .slice none 0 0, rfl, slin_nil _, slout_nil _, rec7_ok⟩
theorem rec0_at (w : World) : RecAt w (.agg #[.int .i64 0, .int .i64 0, .int .u32 0, .slice none 0 0, .slice none 0 0, .int .u32 0, .int .i64 0, .string ⟨#[]⟩, .int .u32 0, .int .i64 0, .int .i64 0, .int .u16 0, .int .u16 0, .int .u32 0, .int .i64 0, .int .i64 0, .int .i64 0, .int .i64 0]) noRec := (noRec_own 0 w).at_
theorem nine_list : (⟨#[49, 50, 51, 52, 53, 54, 55, 56, 57]⟩ : ByteArray).data.toList = [49, 50, 51, 52, 53, 54, 55, 56, 57] := rfl
theorem recN_of {w : World} {v : Value} {r : PRec} (h : RecAt w v r) : RecN r := by
  obtain ⟨va, vb, rfl, hi, ho, hk⟩ := h
  refine ⟨⟨hk.ver, hk.lock, fun x hx => ?_⟩, hk.idx, hk.tag, hk.delay⟩
  obtain ⟨i, hil, rfl⟩ := List.getElem_of_mem hx
  obtain ⟨a, c, rfl, h2, h3, h4⟩ := hi
  obtain ⟨b, o, cs, rfl, e2, e3, e4⟩ := h4 i _ (List.getElem?_eq_getElem hil)
  obtain ⟨wv, -, -, -, h5, h6⟩ := e4
  exact ⟨h5, h6⟩
set_option maxRecDepth 100000 in
set_option maxHeartbeats 8000000 in
theorem wakes26_any (w : World) : Calls Try.prog 7 #[] w (BIs true w) := by
  obtain ⟨s7, hs7⟩ : ∃ s, s = putE rec7 := ⟨_, rfl⟩
  have hs7b : s7 = bL (putL rec7) := by rw [hs7]; unfold putE; rw [if_pos rec7_check]
  have hsz : s7.size = 13 := by rw [hs7b, bL_size, rec7_len]
  obtain ⟨s0, hs0⟩ : ∃ s, s = putE noRec := ⟨_, rfl⟩
  have P1 := Lib.hid (show ∀ y : World, Calls Try.prog 12 #[.agg #[.int .i64 5, .int .i64 7, .int .u32 0, .slice none 0 0, .slice none 0 0, .int .u32 0, .int .i64 0, .string ⟨#[]⟩, .int .u32 0, .int .i64 0, .int .i64 0, .int .u16 0, .int .u16 0, .int .u32 0, .int .i64 0, .int .i64 0, .int .i64 0, .int .i64 0]] y (fun e w' => e = .returned (.tuple #[.string s7, .int .i64 0]) ∧ Below y.heap.size y w') from fun y => by
    have h2 := recput_any _ rec7 y (rec7_at y) (by decide)
    rw [rec7_check, ← hs7] at h2
    exact h2)
  have P0 := Lib.hid (show ∀ y : World, Calls Try.prog 12 #[.agg #[.int .i64 0, .int .i64 0, .int .u32 0, .slice none 0 0, .slice none 0 0, .int .u32 0, .int .i64 0, .string ⟨#[]⟩, .int .u32 0, .int .i64 0, .int .i64 0, .int .u16 0, .int .u16 0, .int .u32 0, .int .i64 0, .int .i64 0, .int .i64 0, .int .i64 0]] y (fun e w' => e = .returned (.tuple #[.string s0, .int .i64 2]) ∧ Below y.heap.size y w') from fun y => by
    have h2 := recput_any _ noRec y (rec0_at y) (by decide)
    rw [noRec_check, ← hs0] at h2
    exact h2)
  have G1 := Lib.hid (show ∀ y : World, Calls Try.prog 11 #[.string (⟨#[120]⟩ ++ s7), .int .i64 1] y (fun e w' => ∃ v, e = .returned (.tuple #[v, .int .i64 14, .int .i64 0]) ∧ RecOwn y.heap.size w' v rec7 ∧ Below y.heap.size y w') from fun y => by
    have hsz2 : (⟨#[120]⟩ ++ s7 : ByteArray).size = 14 := by rw [ByteArray.size_append, hsz]; rfl
    have h2 := recget_any (⟨#[120]⟩ ++ s7) 1 y (by omega) (by omega)
    have hl : (⟨#[120]⟩ ++ s7 : ByteArray).data.toList = [120] ++ (putL rec7 ++ []) := by
      rw [hs7b, List.append_nil]
      simp [bL]
    rw [hl, show (1 : Nat) = ([120] : List UInt8).length from rfl, get_back rec7_check (recN_of (rec7_at y)) [120] [], rec7_len] at h2
    exact h2)
  have S9 := Lib.hid (show ∀ y : World, Calls Try.prog 8 #[.string ⟨#[49, 50, 51, 52, 53, 54, 55, 56, 57]⟩] y (fun e w' => e = .returned (.int .u32 3808858755) ∧ y = w') from fun y => by
    have h2 := recsum_any ⟨#[49, 50, 51, 52, 53, 54, 55, 56, 57]⟩ (by decide) y
    rw [nine_list, crc_nine] at h2
    exact h2)
  have EQ := Lib.hid (show ∀ (y : World) (v1 : Value), RecAt y v1 rec7 → Calls Try.prog 13 #[v1, .agg #[.int .i64 5, .int .i64 7, .int .u32 0, .slice none 0 0, .slice none 0 0, .int .u32 0, .int .i64 0, .string ⟨#[]⟩, .int .u32 0, .int .i64 0, .int .i64 0, .int .u16 0, .int .u16 0, .int .u32 0, .int .i64 0, .int .i64 0, .int .i64 0, .int .i64 0]] y (fun e w' => e = .returned (.bool true) ∧ Below y.heap.size y w') from fun y v1 h1 => by
    have h2 := recequal_any v1 _ rec7 rec7 y h1 (rec7_at y)
    rw [sameR_yes rfl] at h2
    exact h2)
  clear hs7 hs7b hs0
  go_enter Try.func7, Try.ntmps7
  go_wp2_with fail
  refine (P1.out w).mono ?_
  rintro e w1 ⟨rfl, hb⟩
  have HB := Lib.hid hb
  clear hb P1
  go_wp2_with fail
  refine (G1.out w1).mono ?_
  rintro e w2 ⟨v, rfl, ho, hb⟩
  have HB := Lib.hid (HB.out.trans (hb.mono HB.out.size))
  obtain ⟨va, vb, rfl, hto, hok⟩ := ho
  obtain ⟨ia, ic, rfl, -, -⟩ := hto.at_.1.shape
  obtain ⟨oa, oc, rfl, -, -⟩ := hto.at_.2.shape
  have HR := Lib.hid (show RecAt w2 (.agg #[.int .i64 5, .int .i64 7, .int .u32 0, .slice ia rec7.tx.ins.length ic, .slice oa rec7.tx.outs.length oc, .int .u32 0, .int .i64 0, .string ⟨#[]⟩, .int .u32 0, .int .i64 0, .int .i64 0, .int .u16 0, .int .u16 0, .int .u32 0, .int .i64 0, .int .i64 0, .int .i64 0, .int .i64 0]) rec7 from ⟨_, _, rfl, hto.at_.1, hto.at_.2, hok⟩)

  clear hb hto hok G1
  have HNW := Lib.hid (heap_alloc_new w2 (.cells #[.int .i64 0, .int .i64 0, .int .u32 0, .slice none 0 0, .slice none 0 0, .int .u32 0, .int .i64 0, .string ⟨#[]⟩, .int .u32 0, .int .i64 0, .int .i64 0, .int .u16 0, .int .u16 0, .int .u32 0, .int .i64 0, .int .i64 0, .int .i64 0, .int .i64 0] 38))
  have HNR := Lib.hid (setRow_heap (w2.alloc (.cells #[.int .i64 0, .int .i64 0, .int .u32 0, .slice none 0 0, .slice none 0 0, .int .u32 0, .int .i64 0, .string ⟨#[]⟩, .int .u32 0, .int .i64 0, .int .i64 0, .int .u16 0, .int .u16 0, .int .u32 0, .int .i64 0, .int .i64 0, .int .i64 0, .int .i64 0] 38)) w2.heap.size _ #[.int .i64 5, .int .i64 7, .int .u32 0, .slice ia rec7.tx.ins.length ic, .slice oa rec7.tx.outs.length oc, .int .u32 0, .int .i64 0, .string ⟨#[]⟩, .int .u32 0, .int .i64 0, .int .i64 0, .int .u16 0, .int .u16 0, .int .u32 0, .int .i64 0, .int .i64 0, .int .i64 0, .int .i64 0] _ _ HNW.out)
  have HAL := Lib.hid (show Below w2.heap.size w2 ((w2.alloc (.cells #[.int .i64 0, .int .i64 0, .int .u32 0, .slice none 0 0, .slice none 0 0, .int .u32 0, .int .i64 0, .string ⟨#[]⟩, .int .u32 0, .int .i64 0, .int .i64 0, .int .u16 0, .int .u16 0, .int .u32 0, .int .i64 0, .int .i64 0, .int .i64 0, .int .i64 0] 38)).setRow w2.heap.size #[.int .i64 5, .int .i64 7, .int .u32 0, .slice ia rec7.tx.ins.length ic, .slice oa rec7.tx.outs.length oc, .int .u32 0, .int .i64 0, .string ⟨#[]⟩, .int .u32 0, .int .i64 0, .int .i64 0, .int .u16 0, .int .u16 0, .int .u32 0, .int .i64 0, .int .i64 0, .int .i64 0, .int .i64 0]) from below_rowE ((Below.refl _ _).alloc (Nat.le_refl _) _) (Nat.le_refl _) _)
  go_upto_region 3 with (refine wpList_store_row rfl 38 (.tmp 3) (.tmp 17) rfl w2.heap.size #[.int .i64 5, .int .i64 7, .int .u32 0, .slice ia rec7.tx.ins.length ic, .slice oa rec7.tx.outs.length oc, .int .u32 0, .int .i64 0, .string ⟨#[]⟩, .int .u32 0, .int .i64 0, .int .i64 0, .int .u16 0, .int .u16 0, .int .u32 0, .int .i64 0, .int .i64 0, .int .i64 0, .int .i64 0] rfl rfl 38 _ HNW.out (by kernel_rfl) rfl (by kernel_rfl) ?_)
  clear HNW
  obtain ⟨V, hV⟩ : ∃ q, q = w2.heap.size := ⟨_, rfl⟩
  rw [← hV]
  have hz := HNR.out
  have hal := HAL.out
  clear HNR HAL
  rw [← hV] at hz hal
  generalize (w2.alloc (.cells #[.int .i64 0, .int .i64 0, .int .u32 0, .slice none 0 0, .slice none 0 0, .int .u32 0, .int .i64 0, .string ⟨#[]⟩, .int .u32 0, .int .i64 0, .int .i64 0, .int .u16 0, .int .u16 0, .int .u32 0, .int .i64 0, .int .i64 0, .int .i64 0, .int .i64 0] 38)).setRow V #[.int .i64 5, .int .i64 7, .int .u32 0, .slice ia rec7.tx.ins.length ic, .slice oa rec7.tx.outs.length oc, .int .u32 0, .int .i64 0, .string ⟨#[]⟩, .int .u32 0, .int .i64 0, .int .i64 0, .int .u16 0, .int .u16 0, .int .u32 0, .int .i64 0, .int .i64 0, .int .i64 0, .int .i64 0] = w3 at *
  rw [hV] at hal
  have HV := Lib.hid hz
  have HB := Lib.hid (HB.out.trans (hal.mono HB.out.size))
  have HR := Lib.hid (HR.out.below hal)
  clear hz hal hV
  go_wp2_with fail
  refine (P0.out w3).mono ?_
  rintro e w4 ⟨rfl, hb⟩
  have HB := Lib.hid (HB.out.trans (hb.mono HB.out.size))
  have HV := Lib.hid ((hb.block V (Array.getElem?_eq_some_iff.1 HV.out).1).trans HV.out)
  have HR := Lib.hid (HR.out.below hb)
  clear hb P0
  go_wp2_with fail
  refine (S9.out w4).mono ?_
  rintro e w5 ⟨rfl, rfl⟩
  have v0 : w4.cell? ⟨V, 0, none⟩ = some (.int .i64 5) := cell_at HV.out
  have v1 : w4.cell? ⟨V, 1, none⟩ = some (.int .i64 7) := cell_at HV.out
  go_wp2_with (refine wpList_load_row_g 38 (.tmp 3) rfl V rfl 38 #[.int .i64 5, .int .i64 7, .int .u32 0, .slice ia rec7.tx.ins.length ic, .slice oa rec7.tx.outs.length oc, .int .u32 0, .int .i64 0, .string ⟨#[]⟩, .int .u32 0, .int .i64 0, .int .i64 0, .int .u16 0, .int .u16 0, .int .u32 0, .int .i64 0, .int .i64 0, .int .i64 0, .int .i64 0] (0, 0) _ HV.out Try.underlying38 rfl (by kernel_rfl) (by kernel_rfl) ?_)
  refine (EQ.out w4 _ HR.out).mono ?_
  rintro e w6 ⟨rfl, hb⟩
  have HB := Lib.hid (HB.out.trans (hb.mono HB.out.size))
  go_wp2_with fail
  go_ret
  exact ⟨rfl, HB.out⟩
end Go.Proofs.Ytaooibocknemkaa
end

section
/-
  kedgeref26.Make, as the laws call it; small records, as they are handed in. Conditions: the small record lies in memory.
-/
namespace Go.Proofs.Ytaooibocknemkaa
open Go.RowKit Go.BigFrame
set_option linter.unusedVariables false
set_option linter.unusedSimpArgs false
set_option maxRecDepth 100000 in
def SmlV (w : World) (v : Value) (z : PSml) : Prop := ∃ va vb vc vd, v = .agg (smlCells z va vb vc vd).toArray ∧ SlAt rpIn w va z.tx.ins ∧ SlAt rpOut w vb z.tx.outs ∧ SlAt rpIn w vc z.raw.tx.ins ∧ SlAt rpOut w vd z.raw.tx.outs ∧ z.Ok
set_option maxRecDepth 100000 in
theorem open_smlv {H : Type} {enc : TypeId × Value → H} {w : World} {v : Value} {d : DataW H} {ps : List MemPlace} (hv : Value.okWide Try.prog w .any 0 40 v) (h : DataW.Trod enc Try.prog w 0 (fun _ => true) true 40 v d ps) : ∃ z, SmlV w v z := by
  obtain ⟨z, va, vb, vc, vd, h1, h2, h3, h4, h5, h6⟩ := open_sml hv h
  exact ⟨z, va, vb, vc, vd, h1, h2, h3, h4, h5, h6⟩
set_option maxRecDepth 100000 in
theorem SmlV.below {w w' : World} {v : Value} {z : PSml} (h : SmlV w v z) (hb : Below w.heap.size w w') : SmlV w' v z := by
  obtain ⟨va, vb, vc, vd, h1, h2, h3, h4, h5, h6⟩ := h
  exact ⟨va, vb, vc, vd, h1, h2.below hb, h3.below hb, h4.below hb, h5.below hb, h6⟩
set_option maxRecDepth 100000 in
theorem rmake_any (v : Value) (z : PSml) (w : World) (h : SmlV w v z) : Calls Try.prog 10 #[v] w (MakeIs w) := by
  obtain ⟨va, vb, vc, vd, rfl, h2, h3, h4, h5, h6⟩ := h
  cases ho : z.odd with
  | true => exact rmake_odd z va vb vc vd w h2 h3 h4 h5 h6 ho
  | false => exact rmake_even z va vb vc vd w h2 h3 h4 h5 h6 ho
theorem put_none_ (a : Act) (v : Value) : a.put none v = a := rfl
theorem outs_of_check {r : PRec} (h : checkR r = 0) : r.tx.outs.length ≤ 1000 := by
  obtain ⟨hk, ho, hr⟩ := checkR_zero h
  by_cases k1 : r.kind = 1
  · have h1 := (counts_parts (whole_of (hr.com k1).1).counts).1
    omega
  · have h2 := ((own_at ho).1 k1).1
    rw [h2]
    exact Nat.zero_le _
theorem putE_zero {r : PRec} (h : checkR r = 0) : (putE r).data.toList = putL r := by
  unfold putE
  rw [if_pos h]
  simp [bL]
theorem extract_take (s : ByteArray) (n : Nat) : (s.extract 0 n).data.toList = s.data.toList.take n := by simp
end Go.Proofs.Ytaooibocknemkaa
end

section
/-
  RecBack: its walk. Conditions: none.
-/
namespace Go.Proofs.Ytaooibocknemkaa
open Go.RowKit Go.BigFrame
set_option linter.unusedVariables false
set_option linter.unusedSimpArgs false
set_option maxRecDepth 100000 in
set_option maxHeartbeats 8000000 in
theorem recBack_walk (v0 : Value) (z : PSml) (a1 a2 : ByteArray) (w : World) (h0 : SmlV w v0 z) (hs1 : a1.size ≤ 9223372036854775807) (hs2 : a2.size ≤ 9223372036854775807) : Calls Try.prog 4 #[v0, .string a1, .string a2] w (fun e w' => e = .returned (.bool true) ∧ Below w.heap.size w w') := by
  have HS := Lib.hid h0
  obtain ⟨va, vb, vc, vd, rfl, h1, h2, h3, h4, hk⟩ := h0
  obtain ⟨xa, xc, rfl, -, -⟩ := h1.shape
  obtain ⟨ya, yc, rfl, -, -⟩ := h2.shape
  obtain ⟨za, zc, rfl, -, -⟩ := h3.shape
  obtain ⟨ta, tc, rfl, -, -⟩ := h4.shape
  obtain ⟨k1, hk1⟩ : ∃ n, n = z.tx.ins.length := ⟨_, rfl⟩
  obtain ⟨k2, hk2⟩ : ∃ n, n = z.tx.outs.length := ⟨_, rfl⟩
  obtain ⟨k3, hk3⟩ : ∃ n, n = z.raw.tx.ins.length := ⟨_, rfl⟩
  obtain ⟨k4, hk4⟩ : ∃ n, n = z.raw.tx.outs.length := ⟨_, rfl⟩
  rw [← hk1, ← hk2, ← hk3, ← hk4] at HS
  rw [← hk1, ← hk2, ← hk3, ← hk4]
  clear hk1 hk2 hk3 hk4 h1 h2 h3 h4 hk
  unfold smlCells at HS ⊢
  obtain ⟨m1, hm1⟩ : ∃ m, m = min a1.size 100 := ⟨_, rfl⟩
  obtain ⟨m2, hm2⟩ : ∃ m, m = min a2.size 300 := ⟨_, rfl⟩
  have em1 : min (a1.size : Int) 100 = (m1 : Int) := by omega
  have em2 : min (a2.size : Int) 300 = (m2 : Int) := by omega
  have hm10 : (0 : Int) ≤ (m1 : Int) := by omega
  have hm1s : (m1 : Int) ≤ (a1.size : Int) := by omega
  have hm20 : (0 : Int) ≤ (m2 : Int) := by omega
  have hm2s : (m2 : Int) ≤ (a2.size : Int) := by omega
  have HLA := Lib.hid (show (a1.extract 0 m1).size = m1 ∧ m1 ≤ 100 from ⟨by rw [ByteArray.size_extract]; omega, by omega⟩)
  have HLB := Lib.hid (show (a2.extract 0 m2).size = m2 ∧ m2 ≤ 300 from ⟨by rw [ByteArray.size_extract]; omega, by omega⟩)
  clear hm1 hm2
  go_enter Try.func4, Try.ntmps4
  go_upto_region 1 with fail
  have hz := heap_alloc_new w (.cells #[.int .u8 z.kind, .int .u8 z.num, .int .u32 z.tx.ver, .slice xa k1 xc, .slice ya k2 yc, .int .u32 z.tx.lock, .int .u8 z.index, .int .u8 z.br, .int .u16 z.tag, .int .u16 z.delay, .int .u32 z.height, .int .u8 z.point, .int .u32 z.val, .int .u32 z.budget, .int .u32 z.fee, .int .u16 z.dead, .int .u16 z.start, .int .i64 z.raw.kind, .int .i64 z.raw.num, .int .u32 z.raw.tx.ver, .slice za k3 zc, .slice ta k4 tc, .int .u32 z.raw.tx.lock, .int .i64 z.raw.index, .string z.raw.id, .int .u32 z.raw.idx, .int .i64 z.raw.val, .int .i64 z.raw.br, .int .u16 z.raw.tag, .int .u16 z.raw.delay, .int .u32 z.raw.height, .int .i64 z.raw.dead, .int .i64 z.raw.budget, .int .i64 z.raw.start, .int .i64 z.raw.fee, .bool z.odd] 40)
  have hal : Below w.heap.size w (w.alloc (.cells #[.int .u8 z.kind, .int .u8 z.num, .int .u32 z.tx.ver, .slice xa k1 xc, .slice ya k2 yc, .int .u32 z.tx.lock, .int .u8 z.index, .int .u8 z.br, .int .u16 z.tag, .int .u16 z.delay, .int .u32 z.height, .int .u8 z.point, .int .u32 z.val, .int .u32 z.budget, .int .u32 z.fee, .int .u16 z.dead, .int .u16 z.start, .int .i64 z.raw.kind, .int .i64 z.raw.num, .int .u32 z.raw.tx.ver, .slice za k3 zc, .slice ta k4 tc, .int .u32 z.raw.tx.lock, .int .i64 z.raw.index, .string z.raw.id, .int .u32 z.raw.idx, .int .i64 z.raw.val, .int .i64 z.raw.br, .int .u16 z.raw.tag, .int .u16 z.raw.delay, .int .u32 z.raw.height, .int .i64 z.raw.dead, .int .i64 z.raw.budget, .int .i64 z.raw.start, .int .i64 z.raw.fee, .bool z.odd] 40)) := (Below.refl _ _).alloc (Nat.le_refl _) _
  obtain ⟨X, hX⟩ : ∃ q, q = w.heap.size := ⟨_, rfl⟩
  rw [← hX] at hz ⊢
  generalize w.alloc (.cells #[.int .u8 z.kind, .int .u8 z.num, .int .u32 z.tx.ver, .slice xa k1 xc, .slice ya k2 yc, .int .u32 z.tx.lock, .int .u8 z.index, .int .u8 z.br, .int .u16 z.tag, .int .u16 z.delay, .int .u32 z.height, .int .u8 z.point, .int .u32 z.val, .int .u32 z.budget, .int .u32 z.fee, .int .u16 z.dead, .int .u16 z.start, .int .i64 z.raw.kind, .int .i64 z.raw.num, .int .u32 z.raw.tx.ver, .slice za k3 zc, .slice ta k4 tc, .int .u32 z.raw.tx.lock, .int .i64 z.raw.index, .string z.raw.id, .int .u32 z.raw.idx, .int .i64 z.raw.val, .int .i64 z.raw.br, .int .u16 z.raw.tag, .int .u16 z.raw.delay, .int .u32 z.raw.height, .int .i64 z.raw.dead, .int .i64 z.raw.budget, .int .i64 z.raw.start, .int .i64 z.raw.fee, .bool z.odd] 40) = w0 at *
  have HZ := Lib.hid hz
  have HB := Lib.hid hal
  have HMK := Lib.hid (rmake_any _ z w0 (HS.out.below hal))
  clear hz hal hX HS
  go_wp2_with (refine wpList_load_row rfl 40 (.tmp 3) rfl X rfl 40 #[.int .u8 z.kind, .int .u8 z.num, .int .u32 z.tx.ver, .slice xa k1 xc, .slice ya k2 yc, .int .u32 z.tx.lock, .int .u8 z.index, .int .u8 z.br, .int .u16 z.tag, .int .u16 z.delay, .int .u32 z.height, .int .u8 z.point, .int .u32 z.val, .int .u32 z.budget, .int .u32 z.fee, .int .u16 z.dead, .int .u16 z.start, .int .i64 z.raw.kind, .int .i64 z.raw.num, .int .u32 z.raw.tx.ver, .slice za k3 zc, .slice ta k4 tc, .int .u32 z.raw.tx.lock, .int .i64 z.raw.index, .string z.raw.id, .int .u32 z.raw.idx, .int .i64 z.raw.val, .int .i64 z.raw.br, .int .u16 z.raw.tag, .int .u16 z.raw.delay, .int .u32 z.raw.height, .int .i64 z.raw.dead, .int .i64 z.raw.budget, .int .i64 z.raw.start, .int .i64 z.raw.fee, .bool z.odd] (0, 0) _ HZ.out Try.underlying40 rfl (by kernel_rfl) ?_)
  refine HMK.out.mono ?_
  rintro e w1 ⟨v, r, rfl, hr, hout, hb⟩
  have HOUT := Lib.hid hout
  have HB := Lib.hid (HB.out.trans (hb.mono HB.out.size))
  clear hb HMK HZ hout
  obtain ⟨sa, sb, rfl, hsa, hsb, hsk⟩ := hr.at_
  obtain ⟨ia, ic, rfl, -, -⟩ := hsa.shape
  obtain ⟨oa, oc, rfl, -, -⟩ := hsb.shape
  obtain ⟨n1, hn1⟩ : ∃ n, n = r.tx.ins.length := ⟨_, rfl⟩
  obtain ⟨n2, hn2⟩ : ∃ n, n = r.tx.outs.length := ⟨_, rfl⟩
  have HAT := Lib.hid (show RecAt w1 (.agg #[.int .i64 r.kind, .int .i64 r.num, .int .u32 r.tx.ver, .slice ia n1 ic, .slice oa n2 oc, .int .u32 r.tx.lock, .int .i64 r.index, .string r.id, .int .u32 r.idx, .int .i64 r.val, .int .i64 r.br, .int .u16 r.tag, .int .u16 r.delay, .int .u32 r.height, .int .i64 r.dead, .int .i64 r.budget, .int .i64 r.start, .int .i64 r.fee]) r from by rw [hn1, hn2]; exact ⟨_, _, rfl, hsa, hsb, hsk⟩)
  rw [← hn1, ← hn2]
  clear hsa hsb hsk hn1 hn2
  have HNW := Lib.hid (heap_alloc_new w1 (.cells #[.int .i64 0, .int .i64 0, .int .u32 0, .slice none 0 0, .slice none 0 0, .int .u32 0, .int .i64 0, .string ⟨#[]⟩, .int .u32 0, .int .i64 0, .int .i64 0, .int .u16 0, .int .u16 0, .int .u32 0, .int .i64 0, .int .i64 0, .int .i64 0, .int .i64 0] 38))
  have HNR := Lib.hid (setRow_heap (w1.alloc (.cells #[.int .i64 0, .int .i64 0, .int .u32 0, .slice none 0 0, .slice none 0 0, .int .u32 0, .int .i64 0, .string ⟨#[]⟩, .int .u32 0, .int .i64 0, .int .i64 0, .int .u16 0, .int .u16 0, .int .u32 0, .int .i64 0, .int .i64 0, .int .i64 0, .int .i64 0] 38)) w1.heap.size _ #[.int .i64 r.kind, .int .i64 r.num, .int .u32 r.tx.ver, .slice ia n1 ic, .slice oa n2 oc, .int .u32 r.tx.lock, .int .i64 r.index, .string r.id, .int .u32 r.idx, .int .i64 r.val, .int .i64 r.br, .int .u16 r.tag, .int .u16 r.delay, .int .u32 r.height, .int .i64 r.dead, .int .i64 r.budget, .int .i64 r.start, .int .i64 r.fee] _ _ HNW.out)
  have HAL := Lib.hid (show Below w1.heap.size w1 ((w1.alloc (.cells #[.int .i64 0, .int .i64 0, .int .u32 0, .slice none 0 0, .slice none 0 0, .int .u32 0, .int .i64 0, .string ⟨#[]⟩, .int .u32 0, .int .i64 0, .int .i64 0, .int .u16 0, .int .u16 0, .int .u32 0, .int .i64 0, .int .i64 0, .int .i64 0, .int .i64 0] 38)).setRow w1.heap.size #[.int .i64 r.kind, .int .i64 r.num, .int .u32 r.tx.ver, .slice ia n1 ic, .slice oa n2 oc, .int .u32 r.tx.lock, .int .i64 r.index, .string r.id, .int .u32 r.idx, .int .i64 r.val, .int .i64 r.br, .int .u16 r.tag, .int .u16 r.delay, .int .u32 r.height, .int .i64 r.dead, .int .i64 r.budget, .int .i64 r.start, .int .i64 r.fee]) from below_rowE ((Below.refl _ _).alloc (Nat.le_refl _) _) (Nat.le_refl _) _)
  go_upto_region 2 with (refine wpList_store_row rfl 38 (.tmp 7) (.tmp 19) rfl w1.heap.size #[.int .i64 r.kind, .int .i64 r.num, .int .u32 r.tx.ver, .slice ia n1 ic, .slice oa n2 oc, .int .u32 r.tx.lock, .int .i64 r.index, .string r.id, .int .u32 r.idx, .int .i64 r.val, .int .i64 r.br, .int .u16 r.tag, .int .u16 r.delay, .int .u32 r.height, .int .i64 r.dead, .int .i64 r.budget, .int .i64 r.start, .int .i64 r.fee] rfl rfl 38 _ HNW.out (by kernel_rfl) rfl (by kernel_rfl) ?_)
  clear HNW
  obtain ⟨V, hV⟩ : ∃ q, q = w1.heap.size := ⟨_, rfl⟩
  rw [← hV]
  have hz := HNR.out
  have hal := HAL.out
  clear HNR HAL
  rw [← hV] at hz hal
  generalize (w1.alloc (.cells #[.int .i64 0, .int .i64 0, .int .u32 0, .slice none 0 0, .slice none 0 0, .int .u32 0, .int .i64 0, .string ⟨#[]⟩, .int .u32 0, .int .i64 0, .int .i64 0, .int .u16 0, .int .u16 0, .int .u32 0, .int .i64 0, .int .i64 0, .int .i64 0, .int .i64 0] 38)).setRow V #[.int .i64 r.kind, .int .i64 r.num, .int .u32 r.tx.ver, .slice ia n1 ic, .slice oa n2 oc, .int .u32 r.tx.lock, .int .i64 r.index, .string r.id, .int .u32 r.idx, .int .i64 r.val, .int .i64 r.br, .int .u16 r.tag, .int .u16 r.delay, .int .u32 r.height, .int .i64 r.dead, .int .i64 r.budget, .int .i64 r.start, .int .i64 r.fee] = w2 at *
  rw [hV] at hal
  have HV := Lib.hid hz
  have HB := Lib.hid (HB.out.trans (hal.mono HB.out.size))
  have HAT := Lib.hid (HAT.out.below hal)
  clear hz hal hV
  rw [put_none_]
  go_cut [1, 2] (fun s1 s2 wx => s1 = .string (a1.extract 0 m1) ∧ s2 = .string (a2.extract 0 m2) ∧ Below w2.heap.size w2 wx)
  case first =>
    go_region
    all_goals
      go_wp2_with fail
      go_meet
      exact ⟨rfl, rfl, (Below.refl _ _).drew⟩
  case rest =>
    rename World => w3
    obtain ⟨rfl, rfl, hb⟩ := hcut
    have HB := Lib.hid (HB.out.trans (hb.mono HB.out.size))
    have HAT := Lib.hid (HAT.out.below hb)
    have HV := Lib.hid (stay HV.out hb)
    clear hb em1 em2 hm10 hm1s hm20 hm2s
    obtain ⟨ha, hha⟩ : ∃ s, s = a1.extract 0 m1 := ⟨_, rfl⟩
    obtain ⟨hd, hhd⟩ : ∃ s, s = a2.extract 0 m2 := ⟨_, rfl⟩
    rw [← hha] at HLA ⊢
    rw [← hhd] at HLB ⊢
    clear hha hhd
    obtain ⟨⟨q, n, er⟩, hg⟩ : ∃ g, g = getL hd.data.toList 0 := ⟨_, rfl⟩
    have G0 := Lib.hid (show Calls Try.prog 11 #[.string hd, .int .i64 0] w3 (GetRIs (q, n, er) w3) from by rw [hg]; exact recget_any hd 0 w3 (by have := HLB.out; omega) (Nat.zero_le _))
    have HG := Lib.hid hg
    clear hg
    go_wp2_with fail
    refine G0.out.mono ?_
    rintro e w4 ⟨v, rfl, hq, hb⟩
    dsimp only at hq
    dsimp only
    have HB := Lib.hid (HB.out.trans (hb.mono HB.out.size))
    have HAT := Lib.hid (HAT.out.below hb)
    have HV := Lib.hid (stay HV.out hb)
    clear hb G0
    have HAR := HAT
    clear HAT
    obtain ⟨sa, sb, rfl, hto, hsk⟩ := hq
    have hsa := hto.at_.1
    have hsb := hto.at_.2
    obtain ⟨ja, jc, rfl, -, -⟩ := hsa.shape
    obtain ⟨qa, qc, rfl, -, -⟩ := hsb.shape
    obtain ⟨n3, hn1⟩ : ∃ n, n = q.tx.ins.length := ⟨_, rfl⟩
    obtain ⟨n4, hn2⟩ : ∃ n, n = q.tx.outs.length := ⟨_, rfl⟩
    have HAT := Lib.hid (show RecAt w4 (.agg #[.int .i64 q.kind, .int .i64 q.num, .int .u32 q.tx.ver, .slice ja n3 jc, .slice qa n4 qc, .int .u32 q.tx.lock, .int .i64 q.index, .string q.id, .int .u32 q.idx, .int .i64 q.val, .int .i64 q.br, .int .u16 q.tag, .int .u16 q.delay, .int .u32 q.height, .int .i64 q.dead, .int .i64 q.budget, .int .i64 q.start, .int .i64 q.fee]) q from by rw [hn1, hn2]; exact ⟨_, _, rfl, hsa, hsb, hsk⟩)
    rw [← hn1, ← hn2]
    clear hsa hsb hsk hn1 hn2 hto
    have HNW := Lib.hid (heap_alloc_new w4 (.cells #[.int .i64 0, .int .i64 0, .int .u32 0, .slice none 0 0, .slice none 0 0, .int .u32 0, .int .i64 0, .string ⟨#[]⟩, .int .u32 0, .int .i64 0, .int .i64 0, .int .u16 0, .int .u16 0, .int .u32 0, .int .i64 0, .int .i64 0, .int .i64 0, .int .i64 0] 38))
    have HNR := Lib.hid (setRow_heap (w4.alloc (.cells #[.int .i64 0, .int .i64 0, .int .u32 0, .slice none 0 0, .slice none 0 0, .int .u32 0, .int .i64 0, .string ⟨#[]⟩, .int .u32 0, .int .i64 0, .int .i64 0, .int .u16 0, .int .u16 0, .int .u32 0, .int .i64 0, .int .i64 0, .int .i64 0, .int .i64 0] 38)) w4.heap.size _ #[.int .i64 q.kind, .int .i64 q.num, .int .u32 q.tx.ver, .slice ja n3 jc, .slice qa n4 qc, .int .u32 q.tx.lock, .int .i64 q.index, .string q.id, .int .u32 q.idx, .int .i64 q.val, .int .i64 q.br, .int .u16 q.tag, .int .u16 q.delay, .int .u32 q.height, .int .i64 q.dead, .int .i64 q.budget, .int .i64 q.start, .int .i64 q.fee] _ _ HNW.out)
    have HAL := Lib.hid (show Below w4.heap.size w4 ((w4.alloc (.cells #[.int .i64 0, .int .i64 0, .int .u32 0, .slice none 0 0, .slice none 0 0, .int .u32 0, .int .i64 0, .string ⟨#[]⟩, .int .u32 0, .int .i64 0, .int .i64 0, .int .u16 0, .int .u16 0, .int .u32 0, .int .i64 0, .int .i64 0, .int .i64 0, .int .i64 0] 38)).setRow w4.heap.size #[.int .i64 q.kind, .int .i64 q.num, .int .u32 q.tx.ver, .slice ja n3 jc, .slice qa n4 qc, .int .u32 q.tx.lock, .int .i64 q.index, .string q.id, .int .u32 q.idx, .int .i64 q.val, .int .i64 q.br, .int .u16 q.tag, .int .u16 q.delay, .int .u32 q.height, .int .i64 q.dead, .int .i64 q.budget, .int .i64 q.start, .int .i64 q.fee]) from below_rowE ((Below.refl _ _).alloc (Nat.le_refl _) _) (Nat.le_refl _) _)
    go_upto_region 4 with (refine wpList_store_row rfl 38 (.tmp 8) (.tmp 33) rfl w4.heap.size #[.int .i64 q.kind, .int .i64 q.num, .int .u32 q.tx.ver, .slice ja n3 jc, .slice qa n4 qc, .int .u32 q.tx.lock, .int .i64 q.index, .string q.id, .int .u32 q.idx, .int .i64 q.val, .int .i64 q.br, .int .u16 q.tag, .int .u16 q.delay, .int .u32 q.height, .int .i64 q.dead, .int .i64 q.budget, .int .i64 q.start, .int .i64 q.fee] rfl rfl 38 _ HNW.out (by kernel_rfl) rfl (by kernel_rfl) ?_)
    clear HNW
    obtain ⟨U, hV⟩ : ∃ q, q = w4.heap.size := ⟨_, rfl⟩
    rw [← hV]
    have hz := HNR.out
    have hal := HAL.out
    clear HNR HAL
    rw [← hV] at hz hal
    generalize (w4.alloc (.cells #[.int .i64 0, .int .i64 0, .int .u32 0, .slice none 0 0, .slice none 0 0, .int .u32 0, .int .i64 0, .string ⟨#[]⟩, .int .u32 0, .int .i64 0, .int .i64 0, .int .u16 0, .int .u16 0, .int .u32 0, .int .i64 0, .int .i64 0, .int .i64 0, .int .i64 0] 38)).setRow U #[.int .i64 q.kind, .int .i64 q.num, .int .u32 q.tx.ver, .slice ja n3 jc, .slice qa n4 qc, .int .u32 q.tx.lock, .int .i64 q.index, .string q.id, .int .u32 q.idx, .int .i64 q.val, .int .i64 q.br, .int .u16 q.tag, .int .u16 q.delay, .int .u32 q.height, .int .i64 q.dead, .int .i64 q.budget, .int .i64 q.start, .int .i64 q.fee] = w5 at *
    rw [hV] at hal
    have HU := Lib.hid hz
    have HB := Lib.hid (HB.out.trans (hal.mono HB.out.size))
    have HAT := Lib.hid (HAT.out.below hal)
    have HAR := Lib.hid (HAR.out.below hal)
    have HV := Lib.hid (stay HV.out hal)
    clear hz hal hV
    go_upto_if 37 with fail
    go_cut [] (fun wx => Below w5.heap.size w5 wx)
    case first =>
      by_cases he : er = 0
      · obtain ⟨hc, ⟨b, hb0⟩, hn⟩ := get_again (l := hd.data.toList) (p := 0) (by rw [← HG.out]; exact he)
        rw [← HG.out] at hc hb0 hn
        dsimp only at hc hb0 hn
        rw [List.drop_zero] at hb0
        obtain ⟨sq, hsq⟩ : ∃ s, s = putE q := ⟨_, rfl⟩
        have hln : hd.data.toList.length = (putL q).length + b.length := by rw [hb0, List.length_append]
        rw [data_len] at hln
        have hcut2 : hd.extract 0 n = sq := by
          apply ByteArray.ext
          apply Array.ext'
          rw [hsq, putE_zero hc, extract_take, hb0, show n = (putL q).length from by omega, List.take_left]
        have PQ := Lib.hid (show Calls Try.prog 12 #[.agg #[.int .i64 q.kind, .int .i64 q.num, .int .u32 q.tx.ver, .slice ja n3 jc, .slice qa n4 qc, .int .u32 q.tx.lock, .int .i64 q.index, .string q.id, .int .u32 q.idx, .int .i64 q.val, .int .i64 q.br, .int .u16 q.tag, .int .u16 q.delay, .int .u32 q.height, .int .i64 q.dead, .int .i64 q.budget, .int .i64 q.start, .int .i64 q.fee]] w5 (fun e w' => e = .returned (.tuple #[.string sq, .int .i64 0]) ∧ Below w5.heap.size w5 w') from by have h2 := recput_any _ q w5 HAT.out (outs_of_check hc); rw [hc, ← hsq] at h2; exact h2)
        have hns : ¬ (hd.size : Int) < (n : Int) := by omega
        have hn0 : (0 : Int) ≤ (n : Int) := by omega
        have hnd : (n : Int) ≤ (hd.size : Int) := by omega
        subst he
        clear hc hb0 hn hsq hln
        go_wp2_with (refine wpList_load_row rfl 38 (.tmp 8) rfl U rfl 38 #[.int .i64 q.kind, .int .i64 q.num, .int .u32 q.tx.ver, .slice ja n3 jc, .slice qa n4 qc, .int .u32 q.tx.lock, .int .i64 q.index, .string q.id, .int .u32 q.idx, .int .i64 q.val, .int .i64 q.br, .int .u16 q.tag, .int .u16 q.delay, .int .u32 q.height, .int .i64 q.dead, .int .i64 q.budget, .int .i64 q.start, .int .i64 q.fee] (0, 0) _ HU.out Try.underlying38 rfl (by kernel_rfl) ?_)
        refine PQ.out.mono ?_
        rintro e w6 ⟨rfl, hb⟩
        have HB6 := Lib.hid hb
        clear hb PQ
        go_wp2_with fail
        go_meet
        exact HB6.out
      · have he2 : (er == 0) = false := by rw [beq_eq_false_iff_ne]; exact he
        go_wp2_with fail
        go_meet
        exact Below.refl _ _
    case rest =>
      rename World => w6
      have hb := hcut
      clear hcut HAT HU HG
      have HB := Lib.hid (HB.out.trans (hb.mono HB.out.size))
      have HAR := Lib.hid (HAR.out.below hb)
      have HV := Lib.hid (stay HV.out hb)
      clear hb
      obtain ⟨sr, hsr⟩ : ∃ s, s = putE r := ⟨_, rfl⟩
      obtain ⟨cr, hcr⟩ : ∃ c, c = checkR r := ⟨_, rfl⟩
      have PR := Lib.hid (show Calls Try.prog 12 #[.agg #[.int .i64 r.kind, .int .i64 r.num, .int .u32 r.tx.ver, .slice ia n1 ic, .slice oa n2 oc, .int .u32 r.tx.lock, .int .i64 r.index, .string r.id, .int .u32 r.idx, .int .i64 r.val, .int .i64 r.br, .int .u16 r.tag, .int .u16 r.delay, .int .u32 r.height, .int .i64 r.dead, .int .i64 r.budget, .int .i64 r.start, .int .i64 r.fee]] w6 (fun e w' => e = .returned (.tuple #[.string sr, .int .i64 cr]) ∧ Below w6.heap.size w6 w') from by have h2 := recput_any _ r w6 HAR.out HOUT.out; rw [← hcr, ← hsr] at h2; exact h2)
      have HSR := Lib.hid hsr
      have HCR := Lib.hid hcr
      clear hsr hcr
      go_wp2_with (refine wpList_load_row rfl 38 (.tmp 7) rfl V rfl 38 #[.int .i64 r.kind, .int .i64 r.num, .int .u32 r.tx.ver, .slice ia n1 ic, .slice oa n2 oc, .int .u32 r.tx.lock, .int .i64 r.index, .string r.id, .int .u32 r.idx, .int .i64 r.val, .int .i64 r.br, .int .u16 r.tag, .int .u16 r.delay, .int .u32 r.height, .int .i64 r.dead, .int .i64 r.budget, .int .i64 r.start, .int .i64 r.fee] (0, 0) _ HV.out Try.underlying38 rfl (by kernel_rfl) ?_)
      refine PR.out.mono ?_
      rintro e w7 ⟨rfl, hb⟩
      have HB := Lib.hid (HB.out.trans (hb.mono HB.out.size))
      have HAR := Lib.hid (HAR.out.below hb)
      have HV := Lib.hid (stay HV.out hb)
      clear hb PR
      by_cases hc : cr = 0
      rotate_left
      · have hc2 : (cr == 0) = false := by rw [beq_eq_false_iff_ne]; exact hc
        go_wp2_with fail
        refine (wakes26_any w7).mono ?_
        rintro e w8 ⟨rfl, hb⟩
        have HB := Lib.hid (HB.out.trans (hb.mono HB.out.size))
        clear hb
        go_wp2_with fail
        go_ret
        exact ⟨rfl, HB.out⟩
      subst hc
      have hc := HCR.out.symm
      have hpl := (payL_le hc).2
      have hptl := putL_len r
      have hsl : sr.size = (putL r).length := by rw [HSR.out, ← data_len, putE_zero hc]
      obtain ⟨la, hla⟩ : ∃ n, n = ha.size := ⟨_, rfl⟩
      obtain ⟨ls, hls⟩ : ∃ n, n = sr.size := ⟨_, rfl⟩
      obtain ⟨lz, hlz⟩ : ∃ n, n = la + ls := ⟨_, rfl⟩
      have G1 := Lib.hid (show ∀ y : World, Calls Try.prog 11 #[.string (ha ++ sr ++ hd), .int .i64 la] y (fun e w' => ∃ v, e = .returned (.tuple #[v, .int .i64 lz, .int .i64 0]) ∧ RecOwn y.heap.size w' v r ∧ Below y.heap.size y w') from fun y => by
        have hl : (ha ++ sr ++ hd).data.toList = ha.data.toList ++ (putL r ++ hd.data.toList) := by rw [← putE_zero hc, ← HSR.out]; simp
        have hz2 : (ha ++ sr ++ hd).size = ha.size + sr.size + hd.size := by rw [ByteArray.size_append, ByteArray.size_append]
        have h2 := recget_any (ha ++ sr ++ hd) la y (by have := HLA.out; have := HLB.out; omega) (by omega)
        rw [hl, hla, ← data_len ha, get_back hc (recN_of HAR.out), data_len, ← hsl, ← hla, ← hls, ← hlz] at h2
        exact h2)
      have e1 : (ha.size : Int) = (la : Int) := by rw [hla]
      have e2 : (sr.size : Int) = (ls : Int) := by rw [hls]
      have e3 : (la : Int) + (ls : Int) = (lz : Int) := by omega
      have e4 : IntKind.i64.wrap (lz : Int) = (lz : Int) := by rw [IntKind.wrap_i64]; have := HLA.out; omega
      have q1 : ha.size ≤ 100 := by have := HLA.out; omega
      have q2 : sr.size ≤ 160000 := by omega
      have q3 : hd.size ≤ 300 := by have := HLB.out; omega
      clear hc hpl hptl hsl hla hls hlz HSR HCR
      go_wp2_with fail
      refine (G1.out w7).mono ?_
      rintro e w8 ⟨v, rfl, hq, hb⟩
      have HB := Lib.hid (HB.out.trans (hb.mono HB.out.size))
      have HAR := Lib.hid (HAR.out.below hb)
      have HV := Lib.hid (stay HV.out hb)
      clear hb G1
      obtain ⟨sa, sb, rfl, hto, hsk⟩ := hq
      have hsa := hto.at_.1
      have hsb := hto.at_.2
      obtain ⟨ba, bc, rfl, -, -⟩ := hsa.shape
      obtain ⟨da, dc, rfl, -, -⟩ := hsb.shape
      obtain ⟨n5, hn1⟩ : ∃ n, n = r.tx.ins.length := ⟨_, rfl⟩
      obtain ⟨n6, hn2⟩ : ∃ n, n = r.tx.outs.length := ⟨_, rfl⟩
      have HAT := Lib.hid (show RecAt w8 (.agg #[.int .i64 r.kind, .int .i64 r.num, .int .u32 r.tx.ver, .slice ba n5 bc, .slice da n6 dc, .int .u32 r.tx.lock, .int .i64 r.index, .string r.id, .int .u32 r.idx, .int .i64 r.val, .int .i64 r.br, .int .u16 r.tag, .int .u16 r.delay, .int .u32 r.height, .int .i64 r.dead, .int .i64 r.budget, .int .i64 r.start, .int .i64 r.fee]) r from by rw [hn1, hn2]; exact ⟨_, _, rfl, hsa, hsb, hsk⟩)
      rw [← hn1, ← hn2]
      clear hsa hsb hsk hn1 hn2 hto
      have HNW := Lib.hid (heap_alloc_new w8 (.cells #[.int .i64 0, .int .i64 0, .int .u32 0, .slice none 0 0, .slice none 0 0, .int .u32 0, .int .i64 0, .string ⟨#[]⟩, .int .u32 0, .int .i64 0, .int .i64 0, .int .u16 0, .int .u16 0, .int .u32 0, .int .i64 0, .int .i64 0, .int .i64 0, .int .i64 0] 38))
      have HNR := Lib.hid (setRow_heap (w8.alloc (.cells #[.int .i64 0, .int .i64 0, .int .u32 0, .slice none 0 0, .slice none 0 0, .int .u32 0, .int .i64 0, .string ⟨#[]⟩, .int .u32 0, .int .i64 0, .int .i64 0, .int .u16 0, .int .u16 0, .int .u32 0, .int .i64 0, .int .i64 0, .int .i64 0, .int .i64 0] 38)) w8.heap.size _ #[.int .i64 r.kind, .int .i64 r.num, .int .u32 r.tx.ver, .slice ba n5 bc, .slice da n6 dc, .int .u32 r.tx.lock, .int .i64 r.index, .string r.id, .int .u32 r.idx, .int .i64 r.val, .int .i64 r.br, .int .u16 r.tag, .int .u16 r.delay, .int .u32 r.height, .int .i64 r.dead, .int .i64 r.budget, .int .i64 r.start, .int .i64 r.fee] _ _ HNW.out)
      have HAL := Lib.hid (show Below w8.heap.size w8 ((w8.alloc (.cells #[.int .i64 0, .int .i64 0, .int .u32 0, .slice none 0 0, .slice none 0 0, .int .u32 0, .int .i64 0, .string ⟨#[]⟩, .int .u32 0, .int .i64 0, .int .i64 0, .int .u16 0, .int .u16 0, .int .u32 0, .int .i64 0, .int .i64 0, .int .i64 0, .int .i64 0] 38)).setRow w8.heap.size #[.int .i64 r.kind, .int .i64 r.num, .int .u32 r.tx.ver, .slice ba n5 bc, .slice da n6 dc, .int .u32 r.tx.lock, .int .i64 r.index, .string r.id, .int .u32 r.idx, .int .i64 r.val, .int .i64 r.br, .int .u16 r.tag, .int .u16 r.delay, .int .u32 r.height, .int .i64 r.dead, .int .i64 r.budget, .int .i64 r.start, .int .i64 r.fee]) from below_rowE ((Below.refl _ _).alloc (Nat.le_refl _) _) (Nat.le_refl _) _)
      go_upto_region 12 with (refine wpList_store_row rfl 38 (.tmp 15) (.tmp 75) rfl w8.heap.size #[.int .i64 r.kind, .int .i64 r.num, .int .u32 r.tx.ver, .slice ba n5 bc, .slice da n6 dc, .int .u32 r.tx.lock, .int .i64 r.index, .string r.id, .int .u32 r.idx, .int .i64 r.val, .int .i64 r.br, .int .u16 r.tag, .int .u16 r.delay, .int .u32 r.height, .int .i64 r.dead, .int .i64 r.budget, .int .i64 r.start, .int .i64 r.fee] rfl rfl 38 _ HNW.out (by kernel_rfl) rfl (by kernel_rfl) ?_)
      clear HNW
      obtain ⟨G, hV⟩ : ∃ q, q = w8.heap.size := ⟨_, rfl⟩
      rw [← hV]
      have hz := HNR.out
      have hal := HAL.out
      clear HNR HAL
      rw [← hV] at hz hal
      generalize (w8.alloc (.cells #[.int .i64 0, .int .i64 0, .int .u32 0, .slice none 0 0, .slice none 0 0, .int .u32 0, .int .i64 0, .string ⟨#[]⟩, .int .u32 0, .int .i64 0, .int .i64 0, .int .u16 0, .int .u16 0, .int .u32 0, .int .i64 0, .int .i64 0, .int .i64 0, .int .i64 0] 38)).setRow G #[.int .i64 r.kind, .int .i64 r.num, .int .u32 r.tx.ver, .slice ba n5 bc, .slice da n6 dc, .int .u32 r.tx.lock, .int .i64 r.index, .string r.id, .int .u32 r.idx, .int .i64 r.val, .int .i64 r.br, .int .u16 r.tag, .int .u16 r.delay, .int .u32 r.height, .int .i64 r.dead, .int .i64 r.budget, .int .i64 r.start, .int .i64 r.fee] = w9 at *
      rw [hV] at hal
      have HG := Lib.hid hz
      have HB := Lib.hid (HB.out.trans (hal.mono HB.out.size))
      have HAT := Lib.hid (HAT.out.below hal)
      have HAR := Lib.hid (HAR.out.below hal)
      have HV := Lib.hid (stay HV.out hal)
      clear hz hal hV
      go_wp2_with fail
      refine (wakes26_any w9).mono ?_
      rintro e w10 ⟨rfl, hb⟩
      have HB := Lib.hid (HB.out.trans (hb.mono HB.out.size))
      have HAT := Lib.hid (HAT.out.below hb)
      have HAR := Lib.hid (HAR.out.below hb)
      have HV := Lib.hid (stay HV.out hb)
      have HG := Lib.hid (stay HG.out hb)
      clear hb
      have EQ := Lib.hid (show Calls Try.prog 13 #[.agg #[.int .i64 r.kind, .int .i64 r.num, .int .u32 r.tx.ver, .slice ia n1 ic, .slice oa n2 oc, .int .u32 r.tx.lock, .int .i64 r.index, .string r.id, .int .u32 r.idx, .int .i64 r.val, .int .i64 r.br, .int .u16 r.tag, .int .u16 r.delay, .int .u32 r.height, .int .i64 r.dead, .int .i64 r.budget, .int .i64 r.start, .int .i64 r.fee], .agg #[.int .i64 r.kind, .int .i64 r.num, .int .u32 r.tx.ver, .slice ba n5 bc, .slice da n6 dc, .int .u32 r.tx.lock, .int .i64 r.index, .string r.id, .int .u32 r.idx, .int .i64 r.val, .int .i64 r.br, .int .u16 r.tag, .int .u16 r.delay, .int .u32 r.height, .int .i64 r.dead, .int .i64 r.budget, .int .i64 r.start, .int .i64 r.fee]] w10 (fun e w' => e = .returned (.bool true) ∧ Below w10.heap.size w10 w') from by have h2 := recequal_any _ _ r r w10 HAR.out HAT.out; rw [sameR_yes rfl] at h2; exact h2)
      go_wp2_with (first | (refine wpList_load_row_g 38 (.tmp 7) rfl V rfl 38 #[.int .i64 r.kind, .int .i64 r.num, .int .u32 r.tx.ver, .slice ia n1 ic, .slice oa n2 oc, .int .u32 r.tx.lock, .int .i64 r.index, .string r.id, .int .u32 r.idx, .int .i64 r.val, .int .i64 r.br, .int .u16 r.tag, .int .u16 r.delay, .int .u32 r.height, .int .i64 r.dead, .int .i64 r.budget, .int .i64 r.start, .int .i64 r.fee] (0, 0) _ HV.out Try.underlying38 rfl (by kernel_rfl) (by kernel_rfl) ?_) | (refine wpList_load_row_g 38 (.tmp 15) rfl G rfl 38 #[.int .i64 r.kind, .int .i64 r.num, .int .u32 r.tx.ver, .slice ba n5 bc, .slice da n6 dc, .int .u32 r.tx.lock, .int .i64 r.index, .string r.id, .int .u32 r.idx, .int .i64 r.val, .int .i64 r.br, .int .u16 r.tag, .int .u16 r.delay, .int .u32 r.height, .int .i64 r.dead, .int .i64 r.budget, .int .i64 r.start, .int .i64 r.fee] (0, 0) _ HG.out Try.underlying38 rfl (by kernel_rfl) (by kernel_rfl) ?_))
      refine EQ.out.mono ?_
      rintro e w11 ⟨rfl, hb⟩
      have HB := Lib.hid (HB.out.trans (hb.mono HB.out.size))
      have HAT := Lib.hid (HAT.out.below hb)
      have HAR := Lib.hid (HAR.out.below hb)
      have HV := Lib.hid (stay HV.out hb)
      have HG := Lib.hid (stay HG.out hb)
      clear hb EQ
      have SM := Lib.hid (rsame26_self (.agg #[.int .i64 r.kind, .int .i64 r.num, .int .u32 r.tx.ver, .slice ia n1 ic, .slice oa n2 oc, .int .u32 r.tx.lock, .int .i64 r.index, .string r.id, .int .u32 r.idx, .int .i64 r.val, .int .i64 r.br, .int .u16 r.tag, .int .u16 r.delay, .int .u32 r.height, .int .i64 r.dead, .int .i64 r.budget, .int .i64 r.start, .int .i64 r.fee]) (.agg #[.int .i64 r.kind, .int .i64 r.num, .int .u32 r.tx.ver, .slice ba n5 bc, .slice da n6 dc, .int .u32 r.tx.lock, .int .i64 r.index, .string r.id, .int .u32 r.idx, .int .i64 r.val, .int .i64 r.br, .int .u16 r.tag, .int .u16 r.delay, .int .u32 r.height, .int .i64 r.dead, .int .i64 r.budget, .int .i64 r.start, .int .i64 r.fee]) r w11 HAR.out HAT.out)
      go_wp2_with (first | (refine wpList_load_row_g 38 (.tmp 7) rfl V rfl 38 #[.int .i64 r.kind, .int .i64 r.num, .int .u32 r.tx.ver, .slice ia n1 ic, .slice oa n2 oc, .int .u32 r.tx.lock, .int .i64 r.index, .string r.id, .int .u32 r.idx, .int .i64 r.val, .int .i64 r.br, .int .u16 r.tag, .int .u16 r.delay, .int .u32 r.height, .int .i64 r.dead, .int .i64 r.budget, .int .i64 r.start, .int .i64 r.fee] (0, 0) _ HV.out Try.underlying38 rfl (by kernel_rfl) (by kernel_rfl) ?_) | (refine wpList_load_row_g 38 (.tmp 15) rfl G rfl 38 #[.int .i64 r.kind, .int .i64 r.num, .int .u32 r.tx.ver, .slice ba n5 bc, .slice da n6 dc, .int .u32 r.tx.lock, .int .i64 r.index, .string r.id, .int .u32 r.idx, .int .i64 r.val, .int .i64 r.br, .int .u16 r.tag, .int .u16 r.delay, .int .u32 r.height, .int .i64 r.dead, .int .i64 r.budget, .int .i64 r.start, .int .i64 r.fee] (0, 0) _ HG.out Try.underlying38 rfl (by kernel_rfl) (by kernel_rfl) ?_))
      refine SM.out.mono ?_
      rintro e w12 ⟨rfl, hb⟩
      have HB := Lib.hid (HB.out.trans (hb.mono HB.out.size))
      clear hb SM
      go_wp2_with fail
      go_ret
      exact ⟨rfl, HB.out⟩
end Go.Proofs.Ytaooibocknemkaa
end
