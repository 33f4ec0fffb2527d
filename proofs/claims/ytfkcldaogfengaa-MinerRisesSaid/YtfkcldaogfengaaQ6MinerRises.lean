/-
  MinerRises, part 6: the texts M4, MinerRisesLaw, one after another. Conditions: none beyond those named at each.
-/
import Derived.Test.YtfkcldaogfengaaQ5MinerRises
import Derived.Test.YtfkcldaogfengaaRows
import Derived.ProofKit
import Derived.OpenShut
import Derived.ShutString
import Derived.ChangeOld
import Derived.Below
section
/-
  MinerRises: the walk. Conditions: none beyond the arguments' own.
-/
namespace Go.Proofs.Ytfkcldaogfengaa
open Go.RowKit Go.BigFrame Go.Maps
set_option linter.unusedVariables false
set_option linter.unusedSimpArgs false

theorem nat_intsR {base : Nat} {w : World} {v : Value} {q : List Nat} {l : List PE} (h : NatRow base w v q) (hq : ∀ i ∈ q, i < l.length) (hl : l.length ≤ 10) : IntsAt w v (q.map natI) := h.ints fun k hk => by have := hq k hk; omega
/-! ### a list of places that grows, beside a box -/
structure RiseS (w2 : World) (C X : Nat) (ob : Obj) (q : List Nat) (v : Value) (wr : World) : Prop where
  bel : Below w2.heap.size w2 wr
  cs : w2.heap.size ≤ C ∧ C ≤ wr.heap.size
  row : NatRow C wr v q
  box : wr.heap[X]? = some ob
  ap : ∀ b, v.ownBlock = some b → b ≠ X
theorem RiseS.below {w2 wr w' : World} {C X : Nat} {ob : Obj} {q : List Nat} {v : Value} (h : RiseS w2 C X ob q v wr) (hb : Below wr.heap.size wr w') : RiseS w2 C X ob q v w' :=
  ⟨h.bel.trans (hb.mono h.bel.size), ⟨h.cs.1, Nat.le_trans h.cs.2 hb.size⟩, h.row.below hb, stay h.box hb, h.ap⟩
theorem RiseS.app {w2 wr : World} {C X : Nat} {ob : Obj} {q : List Nat} {v : Value} (h : RiseS w2 C X ob q v wr) (j : Nat) (hn : q.length < 1000000) :
    ∃ a' c' wd, (Builtin.append_ #[23, 23] 23 #[v, .slice (some ⟨wr.heap.size, 0, none⟩) 1 1]).run Try.prog (wr.alloc (.cells #[.int .i64 (j : Int)] 3)) = .ok (.slice a' (q.length + 1) c') wd ∧ RiseS w2 C X ob (q ++ [j]) (.slice a' (q.length + 1) c') wd := by
  obtain ⟨i0, hi, hz0, hz1, hz2⟩ := info_parts info_int
  have hx := lt_of h.box
  have h1 := h.cs
  obtain ⟨a2, c2, wd, hrun, hown2, hb2, hg2, hv2⟩ := append_one (P := Try.prog) Try.underlying23 hi hz0 hz1 hz2 rfl h.row #[.int .i64 (j : Int)] rfl (by simp [Value.oneCell']) (by rw [maxLen_eq]; omega) (by omega) (by omega) (ty := 23)
  have keep : ∀ b, b < wr.heap.size → some b ≠ v.ownBlock → wd.heap[b]? = wr.heap[b]? := fun b hb hne => by
    rw [hg2.block b (by simp; omega) hne]; exact Below.heap_alloc wr _ b hb
  refine ⟨a2, c2, wd, hrun, h.bel.trans (hb2.mono (by omega)), ⟨h1.1, Nat.le_trans h1.2 hb2.size⟩, ?_, (keep X hx (fun e => h.ap X e.symm rfl)).trans h.box, fun b hb e => ?_⟩
  · unfold NatRow
    rw [List.length_append, List.map_append, List.map_append]
    exact hown2
  · subst e
    rcases hv2 with e2 | e2
    · rw [e2] at hb; exact h.ap b hb rfl
    · rw [e2] at hb
      injection hb with hb
      omega
/-- What has been met of a while j of them have been looked at. -/
def metN (pa : List Nat) (k j : Nat) : List Nat := if (pa.take j).contains k then [k] else []
theorem metN_zero (pa : List Nat) (k : Nat) : metN pa k 0 = [] := rfl
theorem metN_no {pa : List Nat} {k j p : Nat} (hp : pa[j]? = some p) (h : p ≠ k) : metN pa k (j + 1) = metN pa k j := by
  unfold metN
  rw [snoc_take hp]
  have : ((pa.take j ++ [p]).contains k) = (pa.take j).contains k := by
    rw [Bool.eq_iff_iff, List.contains_iff_mem, List.contains_iff_mem, List.mem_append, List.mem_singleton]
    exact ⟨fun hh => hh.elim id fun e => absurd e.symm h, .inl⟩
  rw [this]
theorem metN_yes {pa : List Nat} {k j : Nat} (hp : pa[j]? = some k) (hnd : pa.Nodup) : metN pa k j = [] ∧ metN pa k (j + 1) = [k] := by
  unfold metN
  have hn : k ∉ pa.take j := fun h => by
    rw [← List.take_append_drop j pa, List.nodup_append] at hnd
    refine hnd.2.2 k h k ?_ rfl
    rw [List.mem_iff_getElem?]
    exact ⟨0, by rw [List.getElem?_drop]; exact hp⟩
  rw [snoc_take hp]
  refine ⟨if_neg (by simpa using hn), if_pos (by simp)⟩
theorem metN_all (pa : List Nat) (k n : Nat) (hn : pa.length ≤ n) : risen pa k ++ metN pa k n = risen pa (k + 1) := by
  unfold metN
  rw [risen_succ, List.take_of_length_le hn]
theorem metN_len (pa : List Nat) (k j : Nat) : (risen pa k ++ metN pa k j).length ≤ k + 1 := by
  have := risen_le pa k
  rw [List.length_append]
  unfold metN
  split <;> simp <;> omega
theorem pre_get {pa pb : List Nat} (h : pa <+: pb) {k p : Nat} (hk : pa[k]? = some p) : pb[k]? = some p := by
  obtain ⟨r, rfl⟩ := h
  rw [List.getElem?_append_left (List.getElem?_eq_some_iff.1 hk).1]
  exact hk
theorem nodup_at {q : List Nat} (hnd : q.Nodup) {k p : Nat} (hp : q[k]? = some p) : p ∉ q.take k := fun h => by
  rw [← List.take_append_drop k q, List.nodup_append] at hnd
  refine hnd.2.2 p h p ?_ rfl
  rw [List.mem_iff_getElem?]
  exact ⟨0, by rw [List.getElem?_drop]; exact hp⟩
theorem risen_nodup (ps : List Nat) (n : Nat) : (risen ps n).Nodup := List.nodup_range.sublist List.filter_sublist
set_option maxRecDepth 100000 in
set_option maxHeartbeats 8000000 in
theorem minerRises_walk (v0 : Value) (zs : List PSm) (thr less : Int) (w : World) (h0 : SlAt rpSm w v0 zs) (h1 : (Lit.int .u16 thr).wf = true) (h2 : (Lit.int .u16 less).wf = true) :
    Calls Try.prog 6 #[v0, .int .u16 thr, .int .u16 less] w (BIs true w) := by
  have HC := Lib.hid (ten_call h0)
  have HLI := Lib.hid (ten_listed h0)
  have HLE := Lib.hid (ten_len zs)
  generalize listL (zs.take 10) = l at *
  obtain ⟨a, c, rfl, -, -⟩ := h0.shape
  obtain ⟨z0, hz0⟩ : ∃ z0, z0 = zs.length := ⟨_, rfl⟩
  rw [← hz0] at HC ⊢
  have b1 := u16_bd h1
  have b2 := u16_bd h2
  have ew1 : IntKind.i64.wrap thr = thr := by rw [IntKind.wrap_i64]; omega
  obtain ⟨lm, hlm⟩ : ∃ lm, lm = less % 100 := ⟨_, rfl⟩
  have em : less.tmod 100 = lm := (Int.tmod_eq_emod_of_nonneg (by omega)).trans hlm.symm
  have em' : less % 100 = lm := hlm.symm
  have bl : 0 ≤ lm ∧ lm < 100 := by omega
  have ew2 : IntKind.i64.wrap lm = lm := by rw [IntKind.wrap_i64]; omega
  obtain ⟨pr, hpr⟩ : ∃ pr, pr = thr * lm := ⟨_, rfl⟩
  have ep : thr * lm = pr := hpr.symm
  have bp : 0 ≤ pr ∧ pr ≤ 100 * thr := by
    rw [hpr]
    refine ⟨Int.mul_nonneg b1.1 bl.1, ?_⟩
    have := Int.mul_le_mul_of_nonneg_left (show lm ≤ 100 by omega) b1.1
    omega
  have ew3 : IntKind.i64.wrap pr = pr := by rw [IntKind.wrap_i64]; omega
  obtain ⟨q, hq⟩ : ∃ q, q = pr / 100 := ⟨_, rfl⟩
  have eq1 : pr.tdiv 100 = q := (Int.tdiv_eq_ediv_of_nonneg bp.1).trans hq.symm
  have eq2 : pr / 100 = q := hq.symm
  have bq : 0 ≤ q ∧ q ≤ thr := by omega
  have ew5 : IntKind.i64.wrap q = q := by rw [IntKind.wrap_i64]; omega
  obtain ⟨td, htd⟩ : ∃ td, td = thr - q := ⟨_, rfl⟩
  have et : thr - q = td := htd.symm
  have bt : 0 ≤ td ∧ td ≤ thr := by omega
  have ew4 : IntKind.i64.wrap td = td := by rw [IntKind.wrap_i64]; omega
  have HTR := Lib.hid (show -9223372036854775808 ≤ thr ∧ thr ≤ 9223372036854775807 by omega)
  have HTD := Lib.hid (show (-9223372036854775808 ≤ td ∧ td ≤ 9223372036854775807) ∧ td ≤ thr by omega)
  clear h0 h1 h2 hz0 hlm hpr hq htd bl bp bq bt b1 b2
  go_enter Try.func6, Try.ntmps6
  go_wp2_with fail
  refine HC.out.mono ?_
  rintro e w1 ⟨v, rfl, hsl, hb⟩
  have HB1 := Lib.hid hb
  have HSL := Lib.hid hsl
  obtain ⟨la, lc, rfl, hl1, hl2⟩ := hsl.shape
  rw [maxLen_eq] at hl2
  obtain ⟨n, hn⟩ : ∃ n, n = l.length := ⟨_, rfl⟩
  have HN := Lib.hid hn
  have hn10 : n ≤ 10 := by have := HLE.out; omega
  rw [← hn] at hl1 HSL ⊢
  have HSZ := Lib.hid (HLI.out.sized (by have := HLE.out; omega))
  have HFW := Lib.hid HLI.out.few
  clear hn hsl hb HC
  have HT1 := Lib.hid (template_any _ l thr 1000000 w1 HSL.out HSZ.out HFW.out HTR.out (by decide))
  have HT2 := Lib.hid (fun wx (h : Below w1.heap.size w1 wx) => template_any _ l td 1000000 wx (HSL.out.below h) HSZ.out HFW.out HTD.out.1 (by decide))
  have HPL := Lib.hid (tmplL_lt l thr 1000000)
  have HPE := Lib.hid (tmplL_len l thr 1000000)
  have HND := Lib.hid (tmplL_nodup l thr 1000000)
  have HPX := Lib.hid (rises_prefix l (thr := thr) (thr' := td) (m0 := 1000000) HTD.out.2)
  have HLW := Lib.hid (fun i (hi : i < l.length) (hn : i ∉ tmplL l thr 1000000) => rises_low (thr := thr) HSZ.out hi hn)
  have HQE := Lib.hid (tmplL_len l td 1000000)
  generalize tmplL l thr 1000000 = pa at *
  generalize tmplL l td 1000000 = pb at *
  go_wp2_with fail
  refine HT1.out.mono ?_
  rintro e w2 ⟨v, rfl, hg, hb⟩
  obtain ⟨ga, gc, rfl, -, -⟩ := hg.shape
  obtain ⟨pn, hpn⟩ : ∃ pn, pn = pa.length := ⟨_, rfl⟩
  have hmp : (pa.map (txI l)).length = pn := by rw [List.length_map, hpn]
  rw [hmp] at hg ⊢
  have HPN := Lib.hid hpn
  have hpn10 : pn ≤ 10 := by have := HPE.out; have := HLE.out; omega
  have HG1 := Lib.hid hg
  have HBX := Lib.hid hb
  clear hg hb hmp hpn HT1
  go_wp2_with fail
  refine (HT2.out w2 HBX.out).mono ?_
  rintro e w3 ⟨v, rfl, hg, hb⟩
  obtain ⟨ha, hc, rfl, -, -⟩ := hg.shape
  obtain ⟨qn, hqn⟩ : ∃ qn, qn = pb.length := ⟨_, rfl⟩
  have hmp : (pb.map (txI l)).length = qn := by rw [List.length_map, hqn]
  rw [hmp] at hg ⊢
  have hpq : pn ≤ qn := by have := HPX.out.length_le; have := HPN.out; omega
  have hqn10 : qn ≤ 10 := by have := HQE.out; have := HLE.out; omega
  have HG := Lib.hid (HG1.out.below hb)
  have HH := Lib.hid hg
  have HS2 := Lib.hid ((HSL.out.below HBX.out).below hb)
  have HB2 := Lib.hid (HB1.out.trans ((HBX.out.trans (hb.mono HBX.out.size)).mono HB1.out.size))
  clear hg hb hmp hqn HT2 HG1 HBX HSL HB1 em em' ew2 ep ew3 eq1 eq2 et ew4 ew5
  go_wp2_with fail
  rw [show decide (qn < pn) = false from decide_eq_false (by omega)]
  go_loopg [47] pn (fun g i wr => ∃ k : Nat, g = pn - k ∧ k ≤ pn ∧ i = .int .i64 k ∧ Below w3.heap.size w3 wr)
  case atStart => exact ⟨0, by omega, by omega, rfl, Below.refl _ _⟩
  case round =>
    rename World => wo
    obtain ⟨k, hgk, hk, rfl, hb⟩ := hrel
    have HGK := Lib.hid hgk
    have HBo := Lib.hid hb
    clear hgk hb
    by_cases hlt : k < pn
    · obtain ⟨gb, go_, tg, i1, n1, c1, i2, n2, c2, rfl, htg, htx, g0, g1, g2, g3⟩ := (HG.out.below HBo.out).txs hlt
      obtain ⟨gb2, go2, th, j1, m1, e1, j2, m2, e2, rfl, hth, hty, y0, y1, y2, y3⟩ := (HH.out.below HBo.out).txs (show k < qn by omega)
      rw [List.getElem?_map] at htg hth
      obtain ⟨p, hp, rfl⟩ := Option.map_eq_some_iff.1 htg
      rw [pre_get HPX.out hp] at hth
      have hth2 : txI l p = th := Option.some.inj hth
      have HSA := Lib.hid (fun y2 (h : Below wo.heap.size wo y2) => by
        have hs := same_any _ _ (txI l p) th y2 (htx.below h) (hty.below h)
        rw [same_yes hth2] at hs
        exact hs)
      clear htg hth htx hty hp hth2
      go_upto_region 9 with fail
      obtain ⟨C, hC⟩ : ∃ C : World → Prop, C = fun w' => Below wo.heap.size wo w' := ⟨_, rfl⟩
      have kg0 := kin_cell hC g0
      have kg1 := kin_cell hC g1
      have kg2 := kin_cell hC g2
      have kg3 := kin_cell hC g3
      have ky0 := kin_cell hC y0
      have ky1 := kin_cell hC y1
      have ky2 := kin_cell hC y2
      have ky3 := kin_cell hC y3
      have QS := Lib.hid (kin_call hC fun y h => HSA.out y h)
      have HC := Lib.hid hC
      clear hC
      refine wp_region_kin C (by kernel_rfl) (by kernel_rfl) (by rw [HC.out]; exact ⟨rfl, rfl, rfl, Nat.le_refl _, fun _ _ => rfl⟩) ?_
      intro hne
      repeat (first | (go_big_quiet_step ((rename_i y; go_at_call 15; exact Calls.kin (QS.out y) (fun w' h => h)))) | (quiet_step ((rename_i y; go_at_call 15; exact Calls.kin (QS.out y) (fun w' h => h)))))
      refine wpQuiet_nil ?_
      intro _ hw'
      obtain ⟨kx, hw''⟩ := hw'
      subst hw''
      obtain ⟨w8, hxc⟩ := kx
      rw [HC.out] at hxc
      clear HC hne kg0 kg1 kg2 kg3 ky0 ky1 ky2 ky3
      have HB8 := Lib.hid (HBo.out.trans (hxc.mono HBo.out.size))
      clear hxc HSA g0 g1 g2 g3 y0 y1 y2 y3
      go_wp2_with fail
      go_roundg (pn - (k + 1))
      case measure => have := HGK.out; omega
      case rel => exact ⟨k + 1, rfl, by omega, by go_num, HB8.out⟩
    · obtain rfl : pn = k := by omega
      have HB4 := Lib.hid (HB2.out.trans (HBo.out.mono HB2.out.size))
      have HS4 := Lib.hid (HS2.out.below HBo.out)
      have HG4 := Lib.hid (HG.out.below HBo.out)
      clear HS2 HG HH HB2 HBo hlt hk HGK
      go_wp2_with fail
      go_loopg [11, 63] n (fun g v i wr => ∃ k : Nat, g = n - k ∧ k ≤ n ∧ i = .int .i64 k ∧ NatRow wo.heap.size wr v (risen pa k) ∧ Below wo.heap.size wo wr)
      case atStart => exact ⟨0, by omega, by omega, rfl, NatRow.nil _ _, Below.refl _ _⟩
      case round =>
        rename World => wq
        rename Value => v11
        obtain ⟨k, hgk, hk, rfl, hrow, hb⟩ := hrel
        have HGK := Lib.hid hgk
        have HROW := Lib.hid hrow
        have HBq := Lib.hid hb
        clear hgk hb
        obtain ⟨va, vc, rfl, -, -⟩ := ownsRow_shape hrow
        obtain ⟨vn, hvn⟩ : ∃ vn, vn = (risen pa k).length := ⟨_, rfl⟩
        have hvl : vn ≤ k := by rw [hvn]; exact risen_le pa k
        rw [← hvn] at HROW ⊢
        have HVN := Lib.hid hvn
        clear hrow hvn
        by_cases hlk : k < n
        · obtain ⟨eb, eo, y, j1, m1, e1, j2, m2, e2, rfl, hy, hye, -, y0, y1, y2, y3, y4, y5, y6⟩ := HS4.out.ent hlk
          replace y0 := below_cells HBq.out _ _ y0
          replace y1 := below_cells HBq.out _ _ y1
          replace y2 := below_cells HBq.out _ _ y2
          replace y3 := below_cells HBq.out _ _ y3
          replace y4 := below_cells HBq.out _ _ y4
          replace y5 := below_cells HBq.out _ _ y5
          replace y6 := below_cells HBq.out _ _ y6
          have HYE := Lib.hid hye
          have HYT := Lib.hid (txI_at hy)
          clear hy hye
          go_wp2_with fail
          have hXq : ∀ b, (Value.slice va vn vc).ownBlock = some b → b ≠ wq.heap.size := fun b hb e => by have := (HROW.out.lt b hb).2; omega
          have hrq := HROW.out
          have hz := heap_alloc_new wq (.cells #[.int .u32 y.tx.ver, .slice j1 m1 e1, .slice j2 m2 e2, .int .u32 y.tx.lock, .string y.id, .int .i64 y.fee, .int .i64 y.size] 43)
          have hal : Below wq.heap.size wq (wq.alloc (.cells #[.int .u32 y.tx.ver, .slice j1 m1 e1, .slice j2 m2 e2, .int .u32 y.tx.lock, .string y.id, .int .i64 y.fee, .int .i64 y.size] 43)) := (Below.refl _ _).alloc (Nat.le_refl _) _
          obtain ⟨X, hX⟩ : ∃ q, q = wq.heap.size := ⟨_, rfl⟩
          rw [← hX] at hz ⊢
          generalize wq.alloc (.cells #[.int .u32 y.tx.ver, .slice j1 m1 e1, .slice j2 m2 e2, .int .u32 y.tx.lock, .string y.id, .int .i64 y.fee, .int .i64 y.size] 43) = w4 at *
          rw [← hX] at hXq
          obtain ⟨C, hC⟩ : ∃ C, C = wo.heap.size := ⟨_, rfl⟩
          have HRS := Lib.hid (show RiseS wo C X (Obj.cells #[.int .u32 y.tx.ver, .slice j1 m1 e1, .slice j2 m2 e2, .int .u32 y.tx.lock, .string y.id, .int .i64 y.fee, .int .i64 y.size] 43 (0, 0)) (risen pa k ++ metN pa k 0) (.slice va vn vc) w4 by
            rw [metN_zero, List.append_nil]
            exact ⟨HBq.out.trans (hal.mono HBq.out.size), ⟨by omega, by have := HBq.out.size; have := hal.size; omega⟩, hC ▸ hrq.below hal, hz, hXq⟩)
          have HC := Lib.hid hC
          have HVN2 := Lib.hid (show vn = (risen pa k ++ metN pa k 0).length by rw [metN_zero, List.append_nil]; exact HVN.out)
          clear hz hal hX hXq hrq hC y0 y1 y2 y3 y4 y5 y6 HROW
          go_loopg [11, 70] pn (fun g v i wr => ∃ (j : Nat) (a' : Option Addr) (vn c' : Nat), g = pn - j ∧ j ≤ pn ∧ i = .int .i64 j ∧ v = .slice a' vn c' ∧ vn = (risen pa k ++ metN pa k j).length ∧ RiseS wo C X (Obj.cells #[.int .u32 y.tx.ver, .slice j1 m1 e1, .slice j2 m2 e2, .int .u32 y.tx.lock, .string y.id, .int .i64 y.fee, .int .i64 y.size] 43 (0, 0)) (risen pa k ++ metN pa k j) v wr)
          case atStart => exact ⟨0, va, vn, vc, by omega, by omega, rfl, rfl, HVN2.out, HRS.out⟩
          case round =>
            clear HRS HVN2
            rename World => wr
            obtain ⟨j, a', vm, c', hgj, hj, rfl, rfl, hvm, hrs⟩ := hrel
            have HGJ := Lib.hid hgj
            have HVM := Lib.hid hvm
            have HRS := Lib.hid hrs
            have hvm11 : vm ≤ 11 := by have := metN_len pa k j; omega
            clear hgj hvm hrs
            by_cases hlj : j < pn
            · obtain ⟨gb, go_, tg, i1, n1, c1, i2, n2, c2, hga, htg, htx, g0, g1, g2, g3⟩ := HG4.out.txs hlj
              subst hga
              rw [List.getElem?_map] at htg
              obtain ⟨p, hp, rfl⟩ := Option.map_eq_some_iff.1 htg
              replace g0 := below_cells HRS.out.bel _ _ g0
              replace g1 := below_cells HRS.out.bel _ _ g1
              replace g2 := below_cells HRS.out.bel _ _ g2
              replace g3 := below_cells HRS.out.bel _ _ g3
              have HP := Lib.hid hp
              have hpl : p < l.length := HPL.out p (List.mem_of_getElem? hp)
              obtain ⟨T, hT⟩ : ∃ T, T = txI l p := ⟨_, rfl⟩
              rw [← hT] at htx g0 g3
              have HTX := Lib.hid htx
              have HSB := Lib.hid (show sameTx y.tx T = decide (p = k) by
                by_cases h : p = k
                · rw [decide_eq_true h, hT, ← HYT.out, h]
                  exact same_yes rfl
                · rw [decide_eq_false h, hT, ← HYT.out]
                  exact same_no fun e => h (HLI.out.txI_inj (by have := HN.out; omega) hpl e).symm)
              clear htg htx hp hT hpl
              go_upto_region 19 with fail
              have hz := heap_alloc_new wr (.cells #[.int .u32 T.ver, .slice i1 n1 c1, .slice i2 n2 c2, .int .u32 T.lock] 41)
              have hal : Below wr.heap.size wr (wr.alloc (.cells #[.int .u32 T.ver, .slice i1 n1 c1, .slice i2 n2 c2, .int .u32 T.lock] 41)) := (Below.refl _ _).alloc (Nat.le_refl _) _
              obtain ⟨Y, hY⟩ : ∃ q, q = wr.heap.size := ⟨_, rfl⟩
              rw [← hY] at hz ⊢
              generalize wr.alloc (.cells #[.int .u32 T.ver, .slice i1 n1 c1, .slice i2 n2 c2, .int .u32 T.lock] 41) = w5 at *
              have z0 : w5.cell? ⟨Y, 0, none⟩ = some (.int .u32 T.ver) := cell_at hz
              have z1 : w5.cell? ⟨Y, 1, none⟩ = some (.slice i1 n1 c1) := cell_at hz
              have z2 : w5.cell? ⟨Y, 2, none⟩ = some (.slice i2 n2 c2) := cell_at hz
              have z3 : w5.cell? ⟨Y, 3, none⟩ = some (.int .u32 T.lock) := cell_at hz
              have HR5 := Lib.hid (HRS.out.below hal)
              have x0 : w5.cell? ⟨X, 0, none⟩ = some (.int .u32 y.tx.ver) := cell_at HR5.out.box
              have x1 : w5.cell? ⟨X, 1, none⟩ = some (.slice j1 m1 e1) := cell_at HR5.out.box
              have x2 : w5.cell? ⟨X, 2, none⟩ = some (.slice j2 m2 e2) := cell_at HR5.out.box
              have x3 : w5.cell? ⟨X, 3, none⟩ = some (.int .u32 y.tx.lock) := cell_at HR5.out.box
              have hsm := same_any _ _ y.tx T w5 ((HYE.out.below HR5.out.bel).tx) (HTX.out.below HR5.out.bel)
              rw [HSB.out] at hsm
              have HSM := Lib.hid hsm
              clear hz hal hY g0 g1 g2 g3 HRS hsm
              go_wp2_with fail
              refine HSM.out.mono ?_
              rintro e w6 ⟨rfl, hb⟩
              have HR6 := Lib.hid (HR5.out.below hb)
              clear hb HR5 HSM z0 z1 z2 z3 x0 x1 x2 x3
              by_cases hpk : p = k
              · subst hpk
                have hdt : decide (p = p) = true := decide_eq_true rfl
                rw [hdt]
                have hm := metN_yes HP.out HND.out
                have hr6 := HR6.out
                rw [hm.1, List.append_nil] at hr6
                have hvp : vm = (risen pa p).length := by rw [HVM.out, hm.1, List.append_nil]
                obtain ⟨a8, c8, wd, hrun, hrs8⟩ := hr6.app p (by omega)
                rw [← hvp] at hrun hrs8
                have HR8 := Lib.hid hrun
                have HS8 := Lib.hid hrs8
                have HM := Lib.hid hm.2
                have HVP := Lib.hid hvp
                clear hdt hm hr6 hvp hrun hrs8
                go_wp2_with (at_builtin; refine wpList_append_run rfl (.tmp 78) (.tmp 80) 23 23 rfl rfl rfl HR8.out ?_)
                go_roundg (pn - (j + 1))
                case measure => have := HGJ.out; omega
                case rel => exact ⟨j + 1, a8, vm + 1, c8, rfl, by omega, by go_num, rfl, by rw [HM.out, List.length_append, ← HVP.out]; rfl, by rw [HM.out]; exact HS8.out⟩
              · rw [decide_eq_false hpk]
                have HM := Lib.hid (metN_no HP.out hpk)
                clear hpk
                go_wp2_with fail
                go_roundg (pn - (j + 1))
                case measure => have := HGJ.out; omega
                case rel => exact ⟨j + 1, a', vm, c', rfl, by omega, by go_num, rfl, by rw [HM.out]; exact HVM.out, by rw [HM.out]; exact HR6.out⟩
            · obtain rfl : pn = j := by omega
              have hall := metN_all pa k pn (by have := HPN.out; omega)
              have hrs := HRS.out
              rw [hall] at hrs
              have HRO := Lib.hid hrs.row
              have HBE := Lib.hid hrs.bel
              clear hall hrs
              go_wp2_with fail
              go_roundg (n - (k + 1))
              case measure => have := HGK.out; omega
              case rel => exact ⟨k + 1, rfl, by omega, by go_num, by rw [← HC.out]; exact HRO.out, HBE.out⟩
        · obtain rfl : n = k := by omega
          obtain ⟨q, hq⟩ : ∃ q, q = risen pa n := ⟨_, rfl⟩
          have hql : ∀ i ∈ q, i < l.length := fun i hi => by rw [hq] at hi; have := HN.out; have := (risen_mem.1 hi).1; omega
          have hvp : vn = pn := by
            rw [HVN.out, HPN.out]
            exact risen_len HND.out fun i hi => by rw [HN.out]; exact HPL.out i hi
          have HQN := Lib.hid (show q.Nodup from hq ▸ risen_nodup pa n)
          have HQM := Lib.hid (fun i => show i ∈ q ↔ i ∈ pa by rw [hq, risen_mem]; exact ⟨fun h => h.2, fun h => ⟨by rw [HN.out]; exact HPL.out i h, h⟩⟩)
          have HQS := Lib.hid (fun i => show scoreZ l (q.map natI) i = scoreOf l pa i by rw [hq, HN.out]; exact risen_score HPL.out i)
          have HQL := Lib.hid (show q.length = pn by rw [hq, ← HVN.out, hvp])
          have hrow := HROW.out
          rw [← hq] at hrow
          have hin := nat_intsR hrow hql HLE.out
          clear hq
          subst hvp
          have HIN := Lib.hid hin
          have HQB := Lib.hid hql
          have HBz := Lib.hid (HB4.out.trans (HBq.out.mono HB4.out.size))
          have HSz := Lib.hid (HS4.out.below HBq.out)
          clear hrow hin hql HROW HBq HS4 HG4 HB4 HVN HGK
          have hmk := @run_makeMap Try.prog
          go_wp2_with fail
          clear hmk
          have hcm := CntM.made wq
          have hz := heap_alloc_new wq (.map #[] 0)
          have hal : Below wq.heap.size wq (wq.alloc (.map #[] 0)) := (Below.refl _ _).alloc (Nat.le_refl _) _
          obtain ⟨B, hB⟩ : ∃ q, q = wq.heap.size := ⟨_, rfl⟩
          rw [← hB] at hz ⊢
          generalize wq.alloc (.map #[] 0) = w5 at *
          have HST := Lib.hid (show CntM w5 B (cntF (q.take 0)) 0 ∧ Below wq.heap.size wq w5 from ⟨by rw [List.take_zero, cnt_nil, hB]; exact hcm, hal⟩)
          have HBB := Lib.hid (show wq.heap.size ≤ B by omega)
          clear hcm hal hz hB
          go_loopg [92] vn (fun g i wr => ∃ k : Nat, g = vn - k ∧ k ≤ vn ∧ i = .int .i64 k ∧ CntM wr B (cntF (q.take k)) k ∧ Below wq.heap.size wq wr)
          case atStart => exact ⟨0, by omega, by omega, rfl, HST.out.1, HST.out.2⟩
          case round =>
            clear HST
            rename World => wr
            obtain ⟨k, hgk, hk, rfl, hcm, hb⟩ := hrel
            have HGK := Lib.hid hgk
            have HBr := Lib.hid hb
            by_cases hlk : k < vn
            · obtain ⟨xb, xo, x, rfl, hx, d0⟩ := (HIN.out.below hb).cell hlk
              rw [List.getElem?_map] at hx
              obtain ⟨p, hp, rfl⟩ := Option.map_eq_some_iff.1 hx
              change wr.cell? ⟨xb, xo + k, none⟩ = some (.int .i64 (p : Int)) at d0
              have hpl := HQB.out p (List.mem_of_getElem? hp)
              have hp10 : p < 1000000 := by have := HLE.out; omega
              have hlk0 := hcm.look hp10
              rw [cnt_no (nodup_at HQN.out hp)] at hlk0
              have hlk1 : (Instr.lookup 46 (.map (some B)) (.int .i64 (p : Int)) false).run Try.prog wr = .ok (.int .i64 0) wr := hlk0
              obtain ⟨w9, hup0, hcm9, hg9⟩ := hcm.put (k := p) (v := 1) hp10 (by omega) (by omega)
              rw [cnt_snoc, ← snoc_take hp] at hcm9
              have hup : (Instr.mapUpdate 46 (.map (some B)) (.int .i64 (p : Int)) (.int .i64 1)).run Try.prog wr = .ok () w9 := hup0
              have HCM9 := Lib.hid hcm9
              have HB9 := Lib.hid (below_cnt hb HBB.out hg9)
              clear hgk hcm hb hx hp hpl hlk0 hup0 hcm9 hg9
              go_wp2_with fail
              go_roundg (vn - (k + 1))
              case measure => have := HGK.out; omega
              case rel => exact ⟨k + 1, rfl, by omega, by go_num, HCM9.out, HB9.out⟩
            · obtain rfl : vn = k := by omega
              rw [List.take_of_length_le (by rw [HQL.out]; omega)] at hcm
              obtain ⟨wz, hwz⟩ : ∃ wz, wz = wr := ⟨_, rfl⟩
              have HZ := Lib.hid (show Below wz.heap.size wz wr from hwz ▸ Below.refl _ _)
              have HCZ := Lib.hid (show CntM wz B (cntF q) vn from hwz ▸ hcm)
              have HBZ := Lib.hid (show Below wq.heap.size wq wz from hwz ▸ hb)
              clear hgk hcm hb hwz HBr
              go_wp2_with fail
              go_loopg [103] n (fun g i wr => ∃ k : Nat, g = n - k ∧ k ≤ n ∧ i = .int .i64 k ∧ Below wz.heap.size wz wr)
              case atStart => exact ⟨0, by omega, by omega, rfl, HZ.out⟩
              case round =>
                clear HZ
                rename World => wx
                obtain ⟨i, hgi, hi, rfl, hb⟩ := hrel
                have HGI := Lib.hid hgi
                have HZ := Lib.hid hb
                have HBX := Lib.hid (HBZ.out.trans (HZ.out.mono HBZ.out.size))
                clear hgi hb
                by_cases hlt : i < n
                · obtain ⟨s, hs⟩ : ∃ s, s = scoreOf l pa i := ⟨_, rfl⟩
                  have hsc := score_any _ _ l i (q.map natI) wx (HSz.out.below HBX.out) (HIN.out.below HBX.out) HSZ.out (by have := HN.out; omega)
                  rw [HQS.out i, ← hs] at hsc
                  have HSC := Lib.hid hsc
                  have HSE := Lib.hid hs
                  clear hs hsc
                  go_wp2_with fail
                  refine HSC.out.mono ?_
                  rintro e w6 ⟨rfl, hb⟩
                  have HZ6 := Lib.hid (HZ.out.trans (hb.mono HZ.out.size))
                  have hlk0 := (HCZ.out.below HZ6.out).look (k := i) (by omega)
                  clear hb HSC HZ HBX
                  by_cases hmem : i ∈ q
                  · rw [cnt_yes hmem] at hlk0
                    have hlk1 : (Instr.lookup 46 (.map (some B)) (.int .i64 (i : Int)) false).run Try.prog w6 = .ok (.int .i64 1) w6 := hlk0
                    clear hlk0 hmem
                    go_wp2_with fail
                    go_roundg (n - (i + 1))
                    case measure => have := HGI.out; omega
                    case rel => exact ⟨i + 1, rfl, by omega, by go_num, HZ6.out⟩
                  · rw [cnt_no hmem] at hlk0
                    have hlk1 : (Instr.lookup 46 (.map (some B)) (.int .i64 (i : Int)) false).run Try.prog w6 = .ok (.int .i64 0) w6 := hlk0
                    have hlo := HLW.out i (by have := HN.out; omega) fun h => hmem ((HQM.out i).2 h)
                    rw [← HSE.out] at hlo
                    have hbl := below21_any s.1 s.2 thr w6
                    rw [hlo] at hbl
                    have HBL := Lib.hid hbl
                    clear hlk0 hmem hlo hbl
                    go_wp2_with fail
                    refine HBL.out.mono ?_
                    rintro e w7 ⟨rfl, rfl⟩
                    clear hlk1 HBL
                    go_wp2_with fail
                    go_roundg (n - (i + 1))
                    case measure => have := HGI.out; omega
                    case rel => exact ⟨i + 1, rfl, by omega, by go_num, HZ6.out⟩
                · obtain rfl : n = i := by omega
                  have HBF := Lib.hid (HBz.out.trans (HBX.out.mono HBz.out.size))
                  go_wp2_with fail
                  refine (wakes21_any wx).mono ?_
                  rintro e w6 ⟨rfl, hb⟩
                  have HB6 := Lib.hid (HBF.out.trans (hb.mono HBF.out.size))
                  clear hb
                  go_wp2_with fail
                  go_ret
                  exact ⟨rfl, HB6.out⟩
end Go.Proofs.Ytfkcldaogfengaa
end

section
/-
  MinerRises returns true for every input, and each argument reads behind the call as before. Conditions: none beyond the statement's own.
-/
namespace Go.Proofs.Ytfkcldaogfengaa.minerRisesDone
open Go.ChangeShapes Go.WideShapes Go.ChangeAt Go.RowKit
open Go.ChangeMaps (open_string shut_string)
set_option linter.unusedVariables false

theorem own : ownKnob Try.prog.godebug = none := by kernel_rfl
theorem laidOut : laidOutB Try.prog = true := by kernel_rfl

set_option maxRecDepth 100000 in
theorem lifted (os : Os) (started : os.Started) (H : Type) (enc : TypeId × Value → H) :
    ReturnsInHanded {} Try.checked os 6 .any (Rows.minerRisesSpec.pre6 enc Try.prog Try.f6 Rows.minerRisesRow.domain false) (Rows.minerRisesSpec.post enc Try.prog Try.f6 false true false false) := by
  refine returnsInHanded_of_change (C := Try.checked) own started (by kernel_rfl) Try.func6
    (ChangeSpec.witness6 (enc := enc) (C := Try.checked) false ⟨#[], #[.slice none 0 0, .int .u16 0, .int .u16 0], []⟩ 8 (by kernel_rfl) (by kernel_rfl) (by kernel_rfl) (by kernel_rfl)) ?_
  intro W base args ds gs before hval0 hW hcnd _
  have hval : ∀ (j : Nat) t v, Try.f6.params[j]? = some t → args[j]? = some v → Value.okWide Try.prog W .any base t v := hval0
  have hW' := hW
  obtain ⟨p, q, hA0, hV, rfl, hfz, hnd⟩ := hW
  have hA : DataW.TrodAll enc Try.prog W 0 (fun _ => true) true Try.f6.params.toList args.toList ds p := hA0
  rw [Try.params6] at hA hval
  obtain ⟨v0, vs0, d0, ds0, p0, q0, hargs, rfl, rfl, h0, r0⟩ := trodAll_cons hA
  obtain ⟨v1, vs1, d1, ds1, p1, q1, rfl, rfl, rfl, h1, r1⟩ := trodAll_cons r0
  obtain ⟨v2, vs2, d2, ds2, p2, q2, rfl, rfl, rfl, h2, r2⟩ := trodAll_cons r1
  obtain ⟨rfl, rfl, rfl⟩ := trodAll_nil r2
  obtain rfl : args = #[v0, v1, v2] := by cases args; simp_all
  obtain ⟨rfl, rfl⟩ := trodVars_none hV
  have k0 := h0
  have lt0 : ∀ x ∈ p0, x.block < W.heap.size := by obtain ⟨m, hm⟩ := k0; exact DataW.trod_lt m _ _ _ hm
  obtain ⟨a0, w0⟩ := open_smalls (hval 0 22 v0 rfl rfl) h0
  have k1 := h1
  have lt1 : ∀ x ∈ p1, x.block < W.heap.size := by obtain ⟨m, hm⟩ := k1; exact DataW.trod_lt m _ _ _ hm
  obtain ⟨a1, rfl, rfl, rfl, w1⟩ := open_int Try.underlying45 (hval 1 45 v1 rfl rfl) h1
  have k2 := h2
  have lt2 : ∀ x ∈ p2, x.block < W.heap.size := by obtain ⟨m, hm⟩ := k2; exact DataW.trod_lt m _ _ _ hm
  obtain ⟨a2, rfl, rfl, rfl, w2⟩ := open_int Try.underlying45 (hval 2 45 v2 rfl rfl) h2
  clear hA0 hval0
  refine (minerRises_walk v0 a0 a1 a2 W w0 w1 w2).mono fun e W' ⟨he, bel⟩ => ?_
  subst he
  exact ⟨_, rfl, _, _, _, [], _, [], hW', trodAll_mk1 (shut_bool Try.underlying4 _), (trodAll_cons_mk (Below.trod laidOut (by kernel_rfl) (of_decide_eq_true (by kernel_rfl)) k0 bel lt0) (trodAll_cons_mk (Below.trod laidOut (by kernel_rfl) (of_decide_eq_true (by kernel_rfl)) k1 bel lt1) (trodAll_cons_mk (Below.trod laidOut (by kernel_rfl) (of_decide_eq_true (by kernel_rfl)) k2 bel lt2) trodAll_mk0))), rfl, bel.frame _, fun h => by cases h⟩

theorem proved : Rows.MinerRisesSaid :=
  OpenClaim.holds_of_wide 6 Try.f6 rfl rfl rfl rfl rfl rfl rfl ⟨rfl, rfl, rfl, rfl, rfl⟩ rfl rfl rfl rfl rfl (by kernel_rfl) Try.func6 (by kernel_rfl)
    (of_decide_eq_true (by kernel_rfl)) (by unfold Func.isWrapper; first | (rw [if_pos (by decide +kernel)]; kernel_rfl) | (rw [if_neg (by decide +kernel)]; exact ⟨rfl, rfl⟩))
    (fun os started H enc _ => lifted os started H enc)

#print axioms proved
end Go.Proofs.Ytfkcldaogfengaa.minerRisesDone
end
