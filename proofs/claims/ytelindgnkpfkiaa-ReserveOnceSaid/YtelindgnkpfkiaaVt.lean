/-
  ReserveOnce: the walk. Conditions: what is done lies in memory.
-/
import Derived.Test.YtelindgnkpfkiaaVq
import Derived.Test.YtelindgnkpfkiaaVs
import Derived.Test.YtelindgnkpfkiaaVk
namespace Go.Proofs.Ytelindgnkpfkiaa
open Go.RowKit Go.BigFrame Go.Maps
set_option linter.unusedVariables false
set_option linter.unusedSimpArgs false

structure OnSt (w0 : World) (b m h r s : Nat) (M N : Int → Option Pt) (wx : World) : Prop where
  rs : RsM wx b m (scrT 1) M r
  held : ∃ n D, wx.ownsMap Try.prog 3 ptElem h n D ∧ Agr D N ∧ n ≤ s
  bel : Below w0.heap.size w0 wx
  base : w0.heap.size ≤ b ∧ w0.heap.size ≤ m ∧ w0.heap.size ≤ h
  ne : h ≠ b ∧ h ≠ m
theorem OnSt.keep {w0 wx w' : World} {b m h r s : Nat} {M N : Int → Option Pt} {row : Option Nat} (H : OnSt w0 b m h r s M N wx) (hg : wx.grownBy w' row) (hr : ∀ j, row = some j → w0.heap.size ≤ j ∧ j ≠ b ∧ j ≠ m ∧ j ≠ h) : OnSt w0 b m h r s M N w' := by
  obtain ⟨n, D, h1, h2, h3⟩ := H.held
  refine ⟨H.rs.grownOther hg (fun e => (hr b e.symm).2.1 rfl) (fun e => (hr m e.symm).2.2.1 rfl), ⟨n, D, h1.kept hg (fun e => (hr h e.symm).2.2.2 rfl), h2, h3⟩, H.bel.grown hg H.bel.size (fun j hj => (hr j hj).1), H.base, H.ne⟩
theorem OnSt.below {w0 wx w' : World} {b m h r s : Nat} {M N : Int → Option Pt} (H : OnSt w0 b m h r s M N wx) (hb : Below wx.heap.size wx w') : OnSt w0 b m h r s M N w' := H.keep (below_grown (row := none) hb rfl) (fun j hj => by cases hj)
theorem OnSt.lease {w0 wx w' : World} {b m h r s r' : Nat} {M N M' : Int → Option Pt} (H : OnSt w0 b m h r s M N wx) (hg : wx.grownBy w' (some m)) (hr : RsM w' b m (scrT 1) M' r') : OnSt w0 b m h r' s M' N w' := by
  obtain ⟨n, D, h1, h2, h3⟩ := H.held
  exact ⟨hr, ⟨n, D, h1.kept hg (fun e => H.ne.2 (by injection e)), h2, h3⟩, H.bel.grown hg H.bel.size (fun j hj => by cases hj; exact H.base.2.1), H.base, H.ne⟩
theorem OnSt.put {w0 wx w' : World} {b m h r s n' s' : Nat} {M N N' : Int → Option Pt} {D' : DataW Unit} (H : OnSt w0 b m h r s M N wx) (hg : wx.grownBy w' (some h)) (ho : w'.ownsMap Try.prog 3 ptElem h n' D') (hag : Agr D' N') (hn : n' ≤ s') : OnSt w0 b m h r s' M N' w' :=
  ⟨H.rs.grownOther hg (fun e => H.ne.1 (by injection e with e; exact e.symm)) (fun e => H.ne.2 (by injection e with e; exact e.symm)), ⟨n', D', ho, hag, hn⟩, H.bel.grown hg H.bel.size (fun j hj => by cases hj; exact H.base.2.2), H.base, H.ne⟩
theorem OnSt.more {w0 wx : World} {b m h r s r' s' : Nat} {M N : Int → Option Pt} (H : OnSt w0 b m h r s M N wx) (h1 : r ≤ r') (h2 : s ≤ s') : OnSt w0 b m h r' s' M N wx := by
  obtain ⟨n, D, e1, e2, e3⟩ := H.held
  exact ⟨H.rs.more h1, ⟨n, D, e1, e2, by omega⟩, H.bel, H.base, H.ne⟩
theorem OnSt.lt {w0 wx : World} {b m h r s : Nat} {M N : Int → Option Pt} (H : OnSt w0 b m h r s M N wx) : b < wx.heap.size ∧ m < wx.heap.size ∧ h < wx.heap.size := by
  obtain ⟨n, D, h1, -⟩ := H.held
  obtain ⟨n', D', h2, -⟩ := H.rs.owns
  exact ⟨lt_of H.rs.box, h2.lt, h1.lt⟩
theorem grown_setB {w wr : World} {m : Nat} (h : w.grownBy wr (some m)) (o : Obj) : w.grownBy (setB wr m o) (some m) :=
  ⟨h.os, h.tape, h.output, by have := h.size; simpa [setB] using this, fun k hk hne => by
    rw [← h.block k hk hne]
    unfold setB
    simp only
    rw [Array.getElem?_setIfInBounds_ne (by intro e; exact hne (by rw [e]))]⟩
theorem Agr.was {D : DataW Unit} {M : Int → Option Pt} {key : Int} {q : Pt} {ps : List MemPlace} (hag : Agr D M) (h : (D.atKey (.int .i64 key) (ptDat (⟨#[]⟩, 0)), ps) = (ptDat q, [])) : q = (M key).getD (⟨#[]⟩, 0) := by
  have h1 := congrArg Prod.fst h
  dsimp only at h1
  cases hm : M key with
  | none =>
    have h2 : Maps.has D (.int .i64 key) = false := by rw [hag.has, hm]; rfl
    rw [atKey_of_not_has h2] at h1
    exact (ptDat_inj h1).symm
  | some p =>
    rw [hag.at_ key p hm] at h1
    exact (ptDat_inj h1).symm
theorem rest_zero {M : Int → Option Pt} {key : Int} {p : Pt} (h : (restE M key p).1 = 0) : (restE M key p).2 = putM M key (some p) := by
  unfold restE at *
  by_cases h1 : key < 0 ∨ p.1.size ≠ 32
  · rw [if_pos h1] at h; exact absurd (show (2 : Int) = 0 from h) (by decide)
  rw [if_neg h1] at h ⊢
  by_cases h2 : (M key).isSome = true ∨ takenB M p = true
  · rw [if_pos h2] at h; exact absurd (show (7 : Int) = 0 from h) (by decide)
  · rw [if_neg h2]
theorem rest_not {M : Int → Option Pt} {key : Int} {p : Pt} (h : (restE M key p).1 ≠ 0) : (restE M key p).2 = M := by
  unfold restE at *
  by_cases h1 : key < 0 ∨ p.1.size ≠ 32
  · rw [if_pos h1]
  rw [if_neg h1] at h ⊢
  by_cases h2 : (M key).isSome = true ∨ takenB M p = true
  · rw [if_pos h2]
  · rw [if_neg h2] at h; exact absurd rfl h
theorem putM_same {M : Int → Option Pt} {key : Int} (h : M key = none) : putM M key none = M := by
  funext j
  unfold putM
  by_cases hj : j = key
  · rw [if_pos hj, hj, h]
  · rw [if_neg hj]
theorem relE_some {M : Int → Option Pt} {key : Int} {p : Pt} (h : M key = some p) : relE M key = (0, putM M key none) := by unfold relE; rw [h]
theorem relE_none {M : Int → Option Pt} {key : Int} (h : M key = none) : relE M key = (8, M) := by unfold relE; rw [h]
set_option maxRecDepth 100000 in
set_option maxHeartbeats 4000000 in
theorem reserveOnce_walk (sl : Value) (l : List PAct) (w : World) (hsl : SlAt rpAct w sl l) : Calls Try.prog 4 #[sl] w (BIs true w) := by
  have HSL := Lib.hid hsl
  obtain ⟨sa, sc, rfl, hl1, hl2⟩ := hsl.shape
  rw [maxLen_eq] at hl2
  obtain ⟨n, hn⟩ : ∃ n, n = l.length := ⟨_, rfl⟩
  rw [← hn] at hl1 HSL ⊢
  obtain ⟨mo, hmo⟩ : ∃ mo, mo = min n 25 := ⟨_, rfl⟩
  have hmin : min (n : Int) 25 = (mo : Int) := by omega
  have hmn : mo ≤ n := by omega
  have hm25 : mo ≤ 25 := by omega
  clear hsl hn hmo
  have hmm := @run_makeMap Try.prog
  go_enter Try.func4, Try.ntmps4
  go_wp2_with fail
  refine (newr_any 1 (by decide) (by decide) w).mono ?_
  rintro e w1 ⟨b, m, rfl, hrm, hb, hm, hbel⟩
  have HRM := Lib.hid hrm
  have HBM := Lib.hid (And.intro hb hm)
  have HBW := Lib.hid hbel
  have hml : m < w1.heap.size := by obtain ⟨n, D, ho, -⟩ := hrm.owns; exact ho.lt
  have HML := Lib.hid (And.intro (lt_of hrm.box) hml)
  clear hrm hb hm hbel hml
  go_wp2_with fail
  refine (wakes23_any w1).mono ?_
  rintro e w2 ⟨rfl, hxc⟩
  have HBW := Lib.hid (HBW.out.trans (hxc.mono HBW.out.size))
  have HRM := Lib.hid (HRM.out.below hxc)
  have HSZ := Lib.hid hxc.size
  clear hxc
  have hown := World.ownsMap_made w2 Try.prog 3 ptElem
  go_upto_region 5 with fail
  have hal : Below w2.heap.size w2 (w2.alloc (.map #[] 0)) := (Below.refl _ _).alloc (Nat.le_refl _) _
  obtain ⟨h, hh⟩ : ∃ h, h = w2.heap.size := ⟨_, rfl⟩
  have HST := Lib.hid (show OnSt w b m h 0 0 (fun _ => none) (fun _ => none) (w2.alloc (.map #[] 0)) from
    ⟨HRM.out.below hal, ⟨0, _, by rw [hh]; exact hown, Agr.start, Nat.le_refl _⟩, HBW.out.trans (hal.mono HBW.out.size), ⟨HBM.out.1, HBM.out.2, by rw [hh]; exact HBW.out.size⟩, by have := HSZ.out; have := HML.out; omega⟩)
  rw [← hh]
  generalize w2.alloc (.map #[] 0) = w3 at *
  clear hown hal hh HRM HBW HSZ HBM HML
  go_wp2_with fail
  go_loopg [37] mo (fun g i wr => ∃ (k : Nat) (M : Int → Option Pt) (L : PLs), g = mo - k ∧ k ≤ mo ∧ i = .int .i64 k ∧ OnSt w b m h k k M M wr ∧ Once L M)
  case atStart => exact ⟨0, _, [], rfl, by omega, rfl, HST.out, Once.start⟩
  case round =>
    clear HST
    rename World => wo
    obtain ⟨k, M, L, hgk, hk, rfl, hst, hon⟩ := hrel
    have HGK := Lib.hid hgk
    have HST := Lib.hid hst
    have HON := Lib.hid hon
    clear hgk hst hon
    by_cases hlt : k < mo
    · obtain ⟨sb, so, x, ca, cn, cc, rfl, hx, hxo, hco, d0, d1, d2, d3, d4, d5, d6⟩ := (HSL.out.below HST.out.bel).act (Nat.lt_of_lt_of_le hlt hmn)
      have HXO := Lib.hid hxo
      have HCO := Lib.hid hco
      clear hx hxo hco
      go_upto_region 8 with fail
      have hz := heap_alloc_new wo (.cells #[.int .u8 x.do_, .int .i64 x.key, .int .i64 x.need, .string x.id, .int .u32 x.idx, .slice ca cn cc, .bool x.odd] 49)
      have hal : Below wo.heap.size wo (wo.alloc (.cells #[.int .u8 x.do_, .int .i64 x.key, .int .i64 x.need, .string x.id, .int .u32 x.idx, .slice ca cn cc, .bool x.odd] 49)) := (Below.refl _ _).alloc (Nat.le_refl _) _
      obtain ⟨Y, hY⟩ : ∃ q, q = wo.heap.size := ⟨_, rfl⟩
      rw [← hY] at hz ⊢
      generalize wo.alloc (.cells #[.int .u8 x.do_, .int .i64 x.key, .int .i64 x.need, .string x.id, .int .u32 x.idx, .slice ca cn cc, .bool x.odd] 49) = w4 at *
      have HYLT := Lib.hid (show m < Y by have h2 := HST.out.lt; omega)
      have HST := Lib.hid (HST.out.below hal)
      have HCO := Lib.hid (HCO.out.below hal)
      have HY := Lib.hid hz
      have y5 : w4.cell? ⟨Y, 5, none⟩ = some (.slice ca cn cc) := cell_at hz
      clear hz hal hY d0 d1 d2 d3 d4 d5 d6
      go_wp2_with fail
      refine (some_any _ x.coins w4 HCO.out).mono ?_
      rintro e w5 ⟨v3, rfl, hso, hxc⟩
      generalize hL : ((x.coins.map coinE).take 10) = CL at *
      have hll : CL.length ≤ 1000 := by rw [← hL, List.length_take]; omega
      have HST := Lib.hid (HST.out.below hxc)
      have HY := Lib.hid (stay HY.out hxc)
      have HSO := Lib.hid hso
      clear hxc hso hL y5 HCO
      obtain ⟨a3, c3, rfl, -, -⟩ := ownsRow_shape HSO.out.row
      go_wp2_with fail
      refine (listed_any _ CL w5 HSO.out.sl hll).mono ?_
      rintro e w6 ⟨v4, rfl, hlo, hxc⟩
      have HST := Lib.hid (HST.out.below hxc)
      have HY := Lib.hid (stay HY.out hxc)
      have HLO := Lib.hid hlo
      clear hxc hlo HSO hll
      obtain ⟨a4, c4, rfl, -, -⟩ := ownsRow_shape HLO.out.row
      have y0 : w6.cell? ⟨Y, 0, none⟩ = some (.int .u8 x.do_) := cell_at HY.out
      have y1 : w6.cell? ⟨Y, 1, none⟩ = some (.int .i64 x.key) := cell_at HY.out
      obtain ⟨kk, hkk⟩ : ∃ kk : Nat, kk = (max 0 x.key).toNat % 6 := ⟨_, rfl⟩
      have e9 : (max 0 x.key).tmod 6 = (kk : Int) := by rw [Int.tmod_eq_emod_of_nonneg (by omega)]; omega
      have e9' : max 0 x.key % 6 = (kk : Int) := by omega
      have hk6 : kk < 6 := by omega
      have HWF := Lib.hid (show (Lit.int .i64 (kk : Int)).wf = true from wf_i64_of (by omega))
      clear hkk
      obtain ⟨hn, hD, hown, hag, hhn⟩ := HST.out.held
      obtain ⟨o, ho⟩ : ∃ o, o = M kk := ⟨_, rfl⟩
      have HHAS := Lib.hid (show Maps.has hD (.int .i64 (kk : Int)) = o.isSome by rw [hag.has, ho])
      have HOWN := Lib.hid hown
      have HAG := Lib.hid hag
      have HO := Lib.hid ho
      have hzp : (zeroValue 35).run Try.prog w6 = .ok (.agg #[.string ⟨#[]⟩, .int .u32 0]) w6 := by kernel_rfl
      clear hown hag hhn ho
      go_upto_region 11 with (first
        | (at_lookup; refine wpList_lookup_own_ok _ rfl _ _ 47 rfl 3 35 law Try.underlying47 ptElem hzp (ptDat (⟨#[]⟩, 0)) [] (ptElem_mk (⟨#[]⟩, 0)) h hn hD rfl HOWN.out _ (.int .i64 (kk : Int)) rfl (keyOf_int_mk Try.underlying3 HWF.out) ?_; intro v ps hv; rw [HHAS.out]; obtain ⟨q, rfl, hq⟩ := ptElem_inv hv; have HQ := Lib.hid (HAG.out.was hq); clear hv hq)
        | go_in)
      have hz := heap_alloc_new w6 (.cells #[.string q.1, .int .u32 q.2] 35)
      have hal : Below w6.heap.size w6 (w6.alloc (.cells #[.string q.1, .int .u32 q.2] 35)) := (Below.refl _ _).alloc (Nat.le_refl _) _
      obtain ⟨P, hP⟩ : ∃ q, q = w6.heap.size := ⟨_, rfl⟩
      rw [← hP] at hz ⊢
      generalize w6.alloc (.cells #[.string q.1, .int .u32 q.2] 35) = w7 at *
      have HPLT := Lib.hid (show m < Y ∧ m < P by have h1 := HYLT.out; have h2 := HST.out.lt; omega)
      have HST := Lib.hid (HST.out.below hal)
      have HY := Lib.hid (stay HY.out hal)
      have HP := Lib.hid hz
      have HLO := Lib.hid (HLO.out.below hal)
      replace y0 := below_cells hal _ _ y0
      clear hz hal hP HOWN HAG HHAS hzp y1 e9 e9'
      obtain ⟨dd, hdd⟩ : ∃ dd, dd = x.do_ % 4 := ⟨_, rfl⟩
      have hd0 : x.do_ < 256 := HXO.out.do_
      have e57 : (x.do_ : Int).tmod 4 = (dd : Int) := by rw [Int.tmod_eq_emod_of_nonneg (by omega)]; omega
      have e57' : (x.do_ : Int) % 4 = (dd : Int) := by omega
      have hd4 : dd < 4 := by omega
      clear hdd hd0
      go_upto_block 2 with fail
      clear e57 e57'
      go_cut [] (fun wx => ∃ (M' : Int → Option Pt) (L' : PLs), OnSt w b m h (k + 1) (k + 1) M' M' wx ∧ Once L' M')
      case first =>
        have hkk : (Lit.int .i64 (kk : Int)).wf = true := HWF.out
        have HK25 := Lib.hid (show k < 1000000 by omega)
        obtain rfl | rfl | ⟨hd2, hd3⟩ : dd = 2 ∨ dd = 3 ∨ (dd ≠ 2 ∧ dd ≠ 3) := by omega
        · have y1 : w7.cell? ⟨Y, 1, none⟩ = some (.int .i64 x.key) := cell_at HY.out
          go_wp2_with fail
          refine (id_any _ w7).mono ?_
          rintro e w8 ⟨rfl, hxc⟩
          have HST := Lib.hid (HST.out.below hxc)
          have hps : (idB (bits BinOp.and IntKind.i64 x.key 7)).size = 32 := idB_size _
          generalize idB (bits BinOp.and IntKind.i64 x.key 7) = pid at *
          have HPS := Lib.hid hps
          have HLT := Lib.hid HST.out.lt
          clear hxc y0 y1 hps
          go_upto_region 19 with fail
          have hz := heap_alloc_new w8 (.cells #[.string pid, .int .u32 0] 35)
          have hal : Below w8.heap.size w8 (w8.alloc (.cells #[.string pid, .int .u32 0] 35)) := (Below.refl _ _).alloc (Nat.le_refl _) _
          obtain ⟨Z, hZ⟩ : ∃ q, q = w8.heap.size := ⟨_, rfl⟩
          rw [← hZ] at hz ⊢
          generalize w8.alloc (.cells #[.string pid, .int .u32 0] 35) = w9 at *
          have HST := Lib.hid (HST.out.below hal)
          have HZ := Lib.hid hz
          have HZM := Lib.hid (show Z ≠ m by rw [hZ]; have := HLT.out; omega)
          have z0 : w9.cell? ⟨Z, 0, none⟩ = some (.string pid) := cell_at hz
          have z1 : w9.cell? ⟨Z, 1, none⟩ = some (.int .u32 0) := cell_at hz
          clear hz hal hZ
          obtain ⟨R, hR⟩ : ∃ R, R = restE M kk (pid, 0) := ⟨_, rfl⟩
          have HC := Lib.hid (show Calls Try.prog 13 #[.pointer (some ⟨b, 0, none⟩), .int .i64 (kk : Int), .agg #[.string pid, .int .u32 0]] w9 (RestP b m (scrT 1) k R w9) by
            rw [hR]
            exact restore_any b m (scrT 1) M kk (pid, 0) w9 HST.out.rs HK25.out hkk (by rw [HPS.out]; decide))
          obtain ⟨rc, M'⟩ := R
          have HR := Lib.hid hR
          clear hR
          by_cases hz : rc = 0
          · subst hz
            have HM := Lib.hid (show M' = putM M kk (some (pid, 0)) from (congrArg Prod.snd HR.out).trans (rest_zero (congrArg Prod.fst HR.out).symm))
            go_wp2_with fail
            refine HC.out.mono ?_
            rintro e w10 ⟨rfl, hg, hr⟩
            have hst := HST.out.lease hg hr
            have hz2 := (hg.block Z (lt_of HZ.out) (by have := HZM.out; intro e; injection e; omega)).trans HZ.out
            obtain ⟨n2, D2, hown2, hag2, hn2⟩ := hst.held
            have HOWN2 := Lib.hid hown2
            have HAG2 := Lib.hid hag2
            have HN2 := Lib.hid hn2
            have HST := Lib.hid hst
            have z0 : w10.cell? ⟨Z, 0, none⟩ = some (.string pid) := cell_at hz2
            have z1 : w10.cell? ⟨Z, 1, none⟩ = some (.int .u32 0) := cell_at hz2
            clear hg hr hst hown2 hag2 hn2 hz2
            go_wp2_with (first
              | (at_mapUpdate; refine wpList_mapUpdate_own _ rfl _ _ _ 47 rfl 3 35 law Try.underlying47 ptElem h n2 D2 rfl HOWN2.out (by rw [maxLen_eq]; have := HN2.out; have := HK25.out; omega) (.int .i64 (kk : Int)) (.agg #[.string pid, .int .u32 0]) (.int .i64 (kk : Int)) rfl rfl (keyOf_int_mk Try.underlying3 HWF.out) (ptDat (pid, 0)) [] (ptElem_mk (pid, 0)) ?_; intro w11 hown11 hg11; have HT := Lib.hid hg11; have HO11 := Lib.hid hown11; clear hown11 hg11 z0 z1)
              | go_in)
            go_meet
            obtain ⟨L', hon⟩ := HON.out.rest kk (pid, 0)
            have e2 : (restE M kk (pid, 0)).2 = M' := (congrArg Prod.snd HR.out).symm
            rw [e2] at hon
            have hfin := HST.out.put HT.out HO11.out (HAG2.out.put kk (pid, 0)) (Nat.succ_le_succ HN2.out)
            rw [← HM.out] at hfin
            exact ⟨M', L', hfin, hon⟩
          · have HM := Lib.hid (show M' = M from (congrArg Prod.snd HR.out).trans (rest_not (by rw [← congrArg Prod.fst HR.out]; exact hz)))
            have hz' : (rc == 0) = false := by simpa using hz
            have hz2 : decide (rc = 0) = false := decide_eq_false hz
            go_wp2_with fail
            refine HC.out.mono ?_
            rintro e w10 ⟨rfl, hg, hr⟩
            have HST := Lib.hid (HST.out.lease hg hr)
            clear hg hr
            go_wp2_with fail
            go_meet
            have hst := HST.out.more (Nat.le_refl _) (Nat.le_succ k)
            rw [HM.out] at hst
            exact ⟨M, L, hst, HON.out⟩
        · cases o with
          | none =>
            have HR := Lib.hid (relE_none HO.out.symm)
            simp only [Option.isSome_none]
            go_wp2_with fail
            refine (release_any b m (scrT 1) M kk w7 HST.out.rs hkk).mono ?_
            rw [HR.out]
            rintro e w8 ⟨rfl, hg, hr⟩
            have hst := HST.out.lease hg hr
            obtain ⟨n2, D2, hown2, hag2, hn2⟩ := hst.held
            have HOWN2 := Lib.hid hown2
            have HAG2 := Lib.hid hag2
            have HN2 := Lib.hid hn2
            have HST := Lib.hid hst
            clear hg hr hst hown2 hag2 hn2 y0
            go_wp2_with (first
              | (at_delete; refine wpList_delete_own _ rfl _ _ 47 3 rfl 35 law Try.underlying47 ptElem h n2 D2 rfl HOWN2.out _ (.int .i64 (kk : Int)) rfl (keyOf_int_mk Try.underlying3 HWF.out) ?_; intro w9 hown9 hturn9; have HT := Lib.hid hturn9.grown; have HO9 := Lib.hid hown9; clear hown9 hturn9)
              | go_in)
            go_meet
            have hfin := (HST.out.put HT.out HO9.out (HAG2.out.del kk) HN2.out).more (Nat.le_succ k) (Nat.le_succ k)
            rw [putM_same HO.out.symm] at hfin
            exact ⟨M, L, hfin, HON.out⟩
          | some p =>
            have HR := Lib.hid (relE_some HO.out.symm)
            simp only [Option.isSome_some]
            go_wp2_with fail
            refine (release_any b m (scrT 1) M kk w7 HST.out.rs hkk).mono ?_
            rw [HR.out]
            rintro e w8 ⟨rfl, hg, hr⟩
            have hst := HST.out.lease hg hr
            obtain ⟨n2, D2, hown2, hag2, hn2⟩ := hst.held
            have HOWN2 := Lib.hid hown2
            have HAG2 := Lib.hid hag2
            have HN2 := Lib.hid hn2
            have HST := Lib.hid hst
            clear hg hr hst hown2 hag2 hn2 y0
            go_wp2_with (first
              | (at_delete; refine wpList_delete_own _ rfl _ _ 47 3 rfl 35 law Try.underlying47 ptElem h n2 D2 rfl HOWN2.out _ (.int .i64 (kk : Int)) rfl (keyOf_int_mk Try.underlying3 HWF.out) ?_; intro w9 hown9 hturn9; have HT := Lib.hid hturn9.grown; have HO9 := Lib.hid hown9; clear hown9 hturn9)
              | go_in)
            go_meet
            have hon := HON.out.rel kk
            rw [HR.out] at hon
            exact ⟨_, _, (HST.out.put HT.out HO9.out (HAG2.out.del kk) HN2.out).more (Nat.le_succ k) (Nat.le_succ k), hon⟩
        · have y2 : w7.cell? ⟨Y, 2, none⟩ = some (.int .i64 x.need) := cell_at HY.out
          obtain ⟨R, hR⟩ : ∃ R, R = leaseF (scrT 1) M kk x.need CL := ⟨_, rfl⟩
          have hg0 := lease_good (script := scrT 1) (key := kk) (need := x.need) (l := CL) HON.out
          have HC := Lib.hid (show Calls Try.prog 10 #[.pointer (some ⟨b, 0, none⟩), .int .i64 (kk : Int), .int .i64 x.need, .slice a4 CL.length c4] w7 (LeaseP b m (scrT 1) k R w7) by
            rw [hR]
            exact lease_any b m (scrT 1) M kk x.need _ CL w7 HST.out.rs HK25.out hkk HLO.out.sl)
          rw [← hR] at hg0
          have HLT := Lib.hid HST.out.lt
          obtain ⟨xe, rc, M'⟩ := R
          obtain ⟨⟨L', hon'⟩, hgn, hgy⟩ := hg0
          have HON' := Lib.hid hon'
          have HGN := Lib.hid hgn
          have HGY := Lib.hid hgy
          have HSC := Lib.hid (enC_def xe)
          clear hR hon' hgn hgy
          go_wp2_with fail
          refine HC.out.mono ?_
          rintro e w8 ⟨rfl, hg, hr⟩
          have HST := Lib.hid (HST.out.lease hg hr)
          have HPM := Lib.hid (show some P ≠ some m by have := HPLT.out; intro e; injection e; omega)
          have HYM := Lib.hid (show some Y ≠ some m by have := HPLT.out; intro e; injection e; omega)
          have HP := Lib.hid ((hg.block P (lt_of HP.out) HPM.out).trans HP.out)
          have HY := Lib.hid ((hg.block Y (lt_of HY.out) HYM.out).trans HY.out)
          clear hg hr y0 y2 HC
          dsimp only
          rw [HSC.out]
          go_upto_region 13 with fail
          have hz := heap_alloc_new w8 (.cells #[.string xe.id, .int .u32 xe.idx, .int .i64 xe.val, .string xe.script, .int .i64 xe.ht] 41)
          have hal : Below w8.heap.size w8 (w8.alloc (.cells #[.string xe.id, .int .u32 xe.idx, .int .i64 xe.val, .string xe.script, .int .i64 xe.ht] 41)) := (Below.refl _ _).alloc (Nat.le_refl _) _
          obtain ⟨Z, hZ⟩ : ∃ q, q = w8.heap.size := ⟨_, rfl⟩
          rw [← hZ] at hz ⊢
          generalize w8.alloc (.cells #[.string xe.id, .int .u32 xe.idx, .int .i64 xe.val, .string xe.script, .int .i64 xe.ht] 41) = w9 at *
          have HST := Lib.hid (HST.out.below hal)
          have HP := Lib.hid (stay HP.out hal)
          have HY := Lib.hid (stay HY.out hal)
          have z0 : w9.cell? ⟨Z, 0, none⟩ = some (.string xe.id) := cell_at hz
          have z1 : w9.cell? ⟨Z, 1, none⟩ = some (.int .u32 xe.idx) := cell_at hz
          have z2 : w9.cell? ⟨Z, 2, none⟩ = some (.int .i64 xe.val) := cell_at hz
          have z3 : w9.cell? ⟨Z, 3, none⟩ = some (.string xe.script) := cell_at hz
          have z4 : w9.cell? ⟨Z, 4, none⟩ = some (.int .i64 xe.ht) := cell_at hz
          have p0 : w9.cell? ⟨P, 0, none⟩ = some (.string q.1) := cell_at HP.out
          have p1 : w9.cell? ⟨P, 1, none⟩ = some (.int .u32 q.2) := cell_at HP.out
          have y2 : w9.cell? ⟨Y, 2, none⟩ = some (.int .i64 x.need) := cell_at HY.out
          clear hz hal hZ
          by_cases hrc : rc = 0
          · subst hrc
            have HM := Lib.hid (HGY.out rfl)
            have HGP := Lib.hid (show RsM w9 b m (scrT 1) M' (k + 1) from HST.out.rs)
            cases o with
            | some p =>
              have hqp : q = p := by rw [HQ.out, ← HO.out]; rfl
              have hxq : xe.pt = q := by rw [hqp]; exact HM.out.2.1 p HO.out.symm
              have heq : ∀ w : World, (Op.equalIn 10000 35 (.agg #[.string xe.id, .int .u32 xe.idx]) (.agg #[.string q.1, .int .u32 q.2])).run Try.prog w = .ok true w := fun w => by
                have h1 := eqIn_pt (xe.id, xe.idx) q w
                rw [show decide ((xe.id, xe.idx) = q) = true from decide_eq_true hxq] at h1
                exact h1
              clear hqp hxq
              simp only [Option.isSome_some]
              obtain ⟨C, hC⟩ : ∃ C : World → Prop, C = fun w' => Below w9.heap.size w9 w' := ⟨_, rfl⟩
              have kz0 := kin_cell hC z0
              have kz1 := kin_cell hC z1
              have kz2 := kin_cell hC z2
              have kz3 := kin_cell hC z3
              have kz4 := kin_cell hC z4
              have kp0 := kin_cell hC p0
              have kp1 := kin_cell hC p1
              have ky2 := kin_cell hC y2
              have HC := Lib.hid hC
              clear hC
              refine wp_region_kin C (by kernel_rfl) (by kernel_rfl) (by rw [HC.out]; exact ⟨rfl, rfl, rfl, Nat.le_refl _, fun _ _ => rfl⟩) ?_
              intro hne
              repeat (first | (go_big_quiet_step (fail)) | (quiet_step (fail)))
              refine wpQuiet_nil ?_
              intro _ hw'
              obtain ⟨kx, hw''⟩ := hw'
              subst hw''
              obtain ⟨w10, hxc⟩ := kx
              rw [HC.out] at hxc
              clear HC hne kz0 kz1 kz2 kz3 kz4 kp0 kp1 ky2
              have hst := HST.out.below hxc
              replace z0 := below_cells hxc _ _ z0
              replace z1 := below_cells hxc _ _ z1
              obtain ⟨n2, D2, hown2, hag2, hn2⟩ := hst.held
              have HOWN2 := Lib.hid hown2
              have HAG2 := Lib.hid hag2
              have HN2 := Lib.hid hn2
              have HST := Lib.hid hst
              clear heq hxc hst hown2 hag2 hn2 z2 z3 z4 p0 p1 y2
              go_wp2_with (first
                | (at_mapUpdate; refine wpList_mapUpdate_own _ rfl _ _ _ 47 rfl 3 35 law Try.underlying47 ptElem h n2 D2 rfl HOWN2.out (by rw [maxLen_eq]; have := HN2.out; have := HK25.out; omega) (.int .i64 (kk : Int)) (.agg #[.string xe.id, .int .u32 xe.idx]) (.int .i64 (kk : Int)) rfl rfl (keyOf_int_mk Try.underlying3 HWF.out) (ptDat xe.pt) [] (ptElem_mk xe.pt) ?_; intro w11 hown11 hg11; have HT := Lib.hid hg11; have HO11 := Lib.hid hown11; clear hown11 hg11 z0 z1)
                | go_in)
              go_meet
              have hfin := HST.out.put HT.out HO11.out (HAG2.out.put kk xe.pt) (Nat.succ_le_succ HN2.out)
              have e : M' = putM M kk (some xe.pt) := HM.out.1
              rw [← e] at hfin
              exact ⟨M', L', hfin, HON'.out⟩
            | none =>
              have hsc : (xe.script.toList == (scrT 1).toList) = true := by rw [(HM.out.2.2 HO.out.symm).2]; exact beq_self_eq_true _
              have hsc' : (xe.script.toList != (scrT 1).toList) = false := by rw [(HM.out.2.2 HO.out.symm).2]; simp
              have hge : ¬ xe.val < x.need := by have := (HM.out.2.2 HO.out.symm).1; omega
              simp only [Option.isSome_none]
              obtain ⟨C, hC⟩ : ∃ C : World → Prop, C = fun w' => Below w9.heap.size w9 w' := ⟨_, rfl⟩
              have kz0 := kin_cell hC z0
              have kz1 := kin_cell hC z1
              have kz2 := kin_cell hC z2
              have kz3 := kin_cell hC z3
              have kz4 := kin_cell hC z4
              have kp0 := kin_cell hC p0
              have kp1 := kin_cell hC p1
              have ky2 := kin_cell hC y2
              have QNs := Lib.hid (kin_call hC fun y h => ((rscr_any b m (scrT 1) M' y (HGP.out.below h)).mono fun e w' ⟨he, hw⟩ => ⟨he, hw ▸ Below.refl _ _⟩))
              have HC := Lib.hid hC
              clear hC
              refine wp_region_kin C (by kernel_rfl) (by kernel_rfl) (by rw [HC.out]; exact ⟨rfl, rfl, rfl, Nat.le_refl _, fun _ _ => rfl⟩) ?_
              intro hne
              repeat (first | (go_big_quiet_step ((rename_i y; go_at_call 14; exact Calls.kin (QNs.out y) (fun w' h => h)))) | (quiet_step ((rename_i y; go_at_call 14; exact Calls.kin (QNs.out y) (fun w' h => h)))))
              refine wpQuiet_nil ?_
              intro _ hw'
              obtain ⟨kx, hw''⟩ := hw'
              subst hw''
              obtain ⟨w10, hxc⟩ := kx
              rw [HC.out] at hxc
              clear HC hne kz0 kz1 kz2 kz3 kz4 kp0 kp1 ky2
              have hst := HST.out.below hxc
              replace z0 := below_cells hxc _ _ z0
              replace z1 := below_cells hxc _ _ z1
              obtain ⟨n2, D2, hown2, hag2, hn2⟩ := hst.held
              have HOWN2 := Lib.hid hown2
              have HAG2 := Lib.hid hag2
              have HN2 := Lib.hid hn2
              have HST := Lib.hid hst
              clear hsc hsc' hge hxc hst hown2 hag2 hn2 z2 z3 z4 p0 p1 y2
              go_wp2_with (first
                | (at_mapUpdate; refine wpList_mapUpdate_own _ rfl _ _ _ 47 rfl 3 35 law Try.underlying47 ptElem h n2 D2 rfl HOWN2.out (by rw [maxLen_eq]; have := HN2.out; have := HK25.out; omega) (.int .i64 (kk : Int)) (.agg #[.string xe.id, .int .u32 xe.idx]) (.int .i64 (kk : Int)) rfl rfl (keyOf_int_mk Try.underlying3 HWF.out) (ptDat xe.pt) [] (ptElem_mk xe.pt) ?_; intro w11 hown11 hg11; have HT := Lib.hid hg11; have HO11 := Lib.hid hown11; clear hown11 hg11 z0 z1)
                | go_in)
              go_meet
              have hfin := HST.out.put HT.out HO11.out (HAG2.out.put kk xe.pt) (Nat.succ_le_succ HN2.out)
              have e : M' = putM M kk (some xe.pt) := HM.out.1
              rw [← e] at hfin
              exact ⟨M', L', hfin, HON'.out⟩
          · have HM := Lib.hid (HGN.out hrc)
            have hrc' : (rc == 0) = false := by simpa using hrc
            have hrc2 : decide (rc = 0) = false := decide_eq_false hrc
            obtain ⟨C, hC⟩ : ∃ C : World → Prop, C = fun w' => Below w9.heap.size w9 w' := ⟨_, rfl⟩
            have kz0 := kin_cell hC z0
            have kz1 := kin_cell hC z1
            have kz2 := kin_cell hC z2
            have kz3 := kin_cell hC z3
            have kz4 := kin_cell hC z4
            have kp0 := kin_cell hC p0
            have kp1 := kin_cell hC p1
            have ky2 := kin_cell hC y2
            have HC := Lib.hid hC
            clear hC
            refine wp_region_kin C (by kernel_rfl) (by kernel_rfl) (by rw [HC.out]; exact ⟨rfl, rfl, rfl, Nat.le_refl _, fun _ _ => rfl⟩) ?_
            intro hne
            repeat (first | (go_big_quiet_step (fail)) | (quiet_step (fail)))
            refine wpQuiet_nil ?_
            intro _ hw'
            obtain ⟨kx, hw''⟩ := hw'
            subst hw''
            obtain ⟨w10, hxc⟩ := kx
            rw [HC.out] at hxc
            clear HC hne kz0 kz1 kz2 kz3 kz4 kp0 kp1 ky2
            have HST := Lib.hid (HST.out.below hxc)
            clear hxc
            go_wp2_with fail
            go_meet
            have hst := HST.out.more (Nat.le_refl _) (Nat.le_succ k)
            have e : M' = M := HM.out
            rw [e] at hst
            exact ⟨M, L, hst, HON.out⟩
      case rest =>
        rename World => w10
        obtain ⟨M2, L2, hst, hon⟩ := hcut
        have HST := Lib.hid hst
        have HON := Lib.hid hon
        have HK25 := Lib.hid (show k + 1 < 1000000 by omega)
        clear hst hon HY HP HLO HQ HO HPLT HYLT HXO HWF hk6
        go_upto_region 26 with fail
        have hma := heap_alloc_new w10 (.map #[] 0)
        have hal : Below w10.heap.size w10 (w10.alloc (.map #[] 0)) := (Below.refl _ _).alloc (Nat.le_refl _) _
        obtain ⟨mm, hmmq⟩ : ∃ q, q = w10.heap.size := ⟨_, rfl⟩
        rw [← hmmq] at hma ⊢
        have hlt3 := HST.out.lt
        rw [← hmmq] at hlt3
        have HMB := Lib.hid (show w.heap.size ≤ mm ∧ mm ≠ b ∧ mm ≠ m ∧ mm ≠ h by have := HST.out.bel.size; omega)
        have HST := Lib.hid (HST.out.below hal)
        generalize w10.alloc (.map #[] 0) = w11 at *
        have HMA := Lib.hid (show MapAt w11 mm (once ((L2.map (·.2)).take 0)) from hma)
        clear hma hal hmmq hlt3
        go_wp2_with fail
        refine (keys_any b m (scrT 1) M2 L2 w11 HST.out.rs HK25.out HON.out.agr).mono ?_
        rintro e w12 ⟨v5, rfl, hrow, hxc⟩
        have HST := Lib.hid (HST.out.below hxc)
        have HMA := Lib.hid (show MapAt w12 mm _ from stay HMA.out hxc)
        obtain ⟨ka, kc, rfl, -, -⟩ := ownsRow_shape hrow
        obtain ⟨n2, D2, hown2, hag2, hn2⟩ := HST.out.held
        have HOWN2 := Lib.hid hown2
        have HSZ2 := Lib.hid (HON.out.agr.size hag2 hown2)
        clear hrow hxc hown2 hag2 hn2
        have hlen : ∀ ty, (Builtin.len_ #[47] ty #[.map (some h)]).run Try.prog w12 = .ok (.int .i64 (L2.length : Nat)) w12 := fun ty => by rw [← HSZ2.out]; exact HOWN2.out.len Try.underlying47 ty
        go_wp2_with fail
        clear hlen
        refine (keys_any b m (scrT 1) M2 L2 w12 HST.out.rs HK25.out HON.out.agr).mono ?_
        rintro e w13 ⟨v5, rfl, hrow, hxc⟩
        have HST := Lib.hid (HST.out.below hxc)
        have HKB := Lib.hid (show mm < w12.heap.size from lt_of HMA.out)
        have HMA := Lib.hid (show MapAt w13 mm _ from stay HMA.out hxc)
        obtain ⟨ka, kc, rfl, hkc1, hkc2⟩ := ownsRow_shape hrow
        rw [maxLen_eq] at hkc2
        have HROW := Lib.hid hrow
        have HB13 := Lib.hid (Below.refl w13.heap.size w13)
        clear hrow hxc HOWN2 HSZ2
        obtain ⟨ll, hll⟩ : ∃ q, q = L2.length := ⟨_, rfl⟩
        rw [← hll] at hkc1 HROW ⊢
        have HLL := Lib.hid hll
        clear hll
        go_wp2_with fail
        go_loopg [145] ll (fun g i wr => ∃ (j : Nat), g = ll - j ∧ j ≤ ll ∧ i = .int .i64 j ∧ OnSt w b m h (k + 1) (k + 1) M2 M2 wr ∧ MapAt wr mm (once ((L2.map (·.2)).take j)) ∧ wr.ownsRow w12.heap.size 3 1 (.slice ka ll kc) ll ((L2.map (·.1)).map encZ))
        case atStart => exact ⟨0, rfl, by omega, rfl, HST.out, HMA.out, HROW.out⟩
        case round =>
          clear HST HMA HROW HB13
          rename World => wq
          obtain ⟨j, hgj, hj, rfl, hst, hma, hrow⟩ := hrel
          have HGJ := Lib.hid hgj
          have HST := Lib.hid hst
          have HMA := Lib.hid hma
          have HROW := Lib.hid hrow
          clear hgj hst hma hrow
          by_cases hjl : j < ll
          · obtain ⟨kb, rfl, hkb1, -⟩ := ownsRow_some HROW.out (by omega)
            obtain ⟨e, he⟩ : ∃ e, L2[j]? = some e := ⟨_, List.getElem?_eq_getElem (by rw [← HLL.out]; exact hjl)⟩
            have k0 : wq.cell? ⟨kb, j, none⟩ = some (.int .i64 e.1) := by
              have h1 := HROW.out.cells (g := kb) rfl j (.int .i64 e.1) (by rw [List.getElem?_map, List.getElem?_map, he]; rfl)
              rw [Addr.add_lit] at h1
              simpa using h1
            have hem := List.mem_of_getElem? he
            have HE := Lib.hid ((HON.out.agr.iff e.1 e.2).2 hem)
            have hps : (L2.map (·.2))[j]? = some e.2 := by rw [List.getElem?_map, he]; rfl
            have hnin : e.2 ∉ (L2.map (·.2)).take j := by
              intro hin
              obtain ⟨i, hi, e2⟩ := List.getElem_of_mem hin
              have hi2 : i < j := by rw [List.length_take] at hi; omega
              have h1 := List.nodup_iff_pairwise_ne.1 HON.out.inj
              have h2 := List.pairwise_iff_getElem.1 h1 i j (by rw [List.length_map]; have := HLL.out; omega) (by rw [List.length_map]; have := HLL.out; omega) hi2
              rw [List.getElem_take] at e2
              have h3 := (List.getElem?_eq_some_iff.1 hps).2
              exact h2 (e2.trans h3.symm)
            obtain ⟨n2, D2, hown2, hag2, hn2⟩ := HST.out.held
            have HKW := Lib.hid (intKeys_wf hown2 Try.underlying3 e.1 ((HON.out.agr.keys hag2 hown2).mem_iff.1 (List.mem_map_of_mem hem)))
            have HPS := Lib.hid hps
            have HNIN := Lib.hid hnin
            have HKM := Lib.hid (show kb ≠ mm by have := HKB.out; omega)
            clear hem he hps hnin hown2 hag2 hn2 hkb1
            go_wp2_with fail
            refine (leased_any b m (scrT 1) M2 e.1 wq HST.out.rs HKW.out).mono ?_
            rw [HE.out]
            rintro e' w14 ⟨rfl, hxc⟩
            have HST := Lib.hid (HST.out.below hxc)
            have HMA := Lib.hid (show MapAt w14 mm _ from stay HMA.out hxc)
            have HROW := Lib.hid (ownsRow_below HROW.out hxc)
            clear hxc k0
            simp only [Option.getD_some, Option.isSome_some]
            go_upto_region 32 with fail
            have hx0 := heap_alloc_new w14 (.cells #[.string e.2.1, .int .u32 e.2.2] 35)
            have hbx : Below w14.heap.size w14 (w14.alloc (.cells #[.string e.2.1, .int .u32 e.2.2] 35)) := (Below.refl _ _).alloc (Nat.le_refl _) _
            generalize w14.alloc (.cells #[.string e.2.1, .int .u32 e.2.2] 35) = wx at *
            have HMLT := Lib.hid (lt_of HMA.out)
            have hmx : MapAt wx mm (once ((L2.map (·.2)).take j)) := stay HMA.out hbx
            have htx := HST.out.below hbx
            have hrx := ownsRow_below HROW.out hbx
            have e0 : wx.cell? ⟨w14.heap.size, 0, none⟩ = some (.string e.2.1) := cell_at hx0
            have e1 : wx.cell? ⟨w14.heap.size, 1, none⟩ = some (.int .u32 e.2.2) := cell_at hx0
            obtain ⟨ps, hpsd⟩ : ∃ ps, ps = L2.map (·.2) := ⟨_, rfl⟩
            rw [← hpsd] at hmx HNIN HPS
            have hmd : MapAt wx.drew mm (once (ps.take j)) := hmx
            have f1 := lookup_pt hmd e.2
            have f2 := entry_pt hmd e.2
            have hm2 := hmd.set (withPt e.2 (once (ps.take j)))
            obtain ⟨q1, q2, q3, q4⟩ := new_pt HNIN.out
            rw [q1, q3, q2] at f2
            rw [q2] at hm2
            rw [q1] at f1
            obtain ⟨wy, hwy⟩ : ∃ wy, wy = setB wx.drew mm (.map (ents 0 (once (ps.take j) ++ [(e.2, 0)])).toArray (once (ps.take j) ++ [(e.2, (0 : Int))]).length) := ⟨_, rfl⟩
            rw [← hwy] at f2 hm2
            have f3 := lookup_pt hm2 e.2
            have hlv : lkV e.2 (once (ps.take j) ++ [(e.2, 0)]) = 0 := lkV_zero HNIN.out
            rw [hlv] at f3
            have hlen : (ps.take j).length < (once (ps.take j) ++ [(e.2, (0 : Int))]).length := by rw [List.length_append, once_len]; simp
            have f4 := store_pt hm2 (ps.take j).length hlen 1
            have hm3 := hm2.set (putAt (once (ps.take j) ++ [(e.2, 0)]) (ps.take j).length 1)
            rw [q4] at f4 hm3
            obtain ⟨wz, hwz⟩ : ∃ wz, wz = setB wy mm (.map (ents 0 (once (ps.take j ++ [e.2]))).toArray (once (ps.take j ++ [e.2])).length) := ⟨_, rfl⟩
            rw [← hwz] at f4 hm3
            have f5 := lookup_pt hm3 e.2
            rw [lkV_new] at f5
            have z0 : wz.cell? ⟨w14.heap.size, 0, none⟩ = some (.string e.2.1) := by rw [hwz, hwy, cell_setB (by simp; have := HMLT.out; omega), cell_setB (by simp; have := HMLT.out; omega)]; exact e0
            have z1 : wz.cell? ⟨w14.heap.size, 1, none⟩ = some (.int .u32 e.2.2) := by rw [hwz, hwy, cell_setB (by simp; have := HMLT.out; omega), cell_setB (by simp; have := HMLT.out; omega)]; exact e1
            have hgz : wx.grownBy wz (some mm) := by rw [hwz, hwy]; exact grown_setB (grown_setB (w := wx) (wr := wx.drew) ⟨rfl, rfl, rfl, Nat.le_refl _, fun _ _ _ => rfl⟩ _) _
            have htk : ps.take (j + 1) = ps.take j ++ [e.2] := by rw [List.take_add_one, HPS.out]; rfl
            rw [← htk] at hm3
            have htz := htx.keep hgz (fun i hi => by cases hi; exact HMB.out)
            obtain ⟨n2, D2, hown2, hag2, -⟩ := htz.held
            have hzp : (zeroValue 35).run Try.prog wz = .ok (.agg #[.string ⟨#[]⟩, .int .u32 0]) wz := by kernel_rfl
            obtain ⟨lv, lps, f6, hlv2⟩ := hown2.lookup law Try.underlying47 hzp (ptElem_mk (⟨#[]⟩, 0)) (keyOf_int_mk Try.underlying3 HKW.out)
            obtain ⟨qv, rfl, hqv⟩ := ptElem_inv hlv2
            obtain rfl : qv = e.2 := by
              rw [hag2.was hqv, HE.out]
              rfl
            have heq : ∀ w : World, (Op.equalIn 10000 35 (.agg #[.string e.2.1, .int .u32 e.2.2]) (.agg #[.string e.2.1, .int .u32 e.2.2])).run Try.prog w = .ok true w := fun w => by
              have h1 := eqIn_pt e.2 e.2 w
              rw [decide_eq_true rfl] at h1
              exact h1
            have HTZ := Lib.hid htz
            have HMZ := Lib.hid (hpsd ▸ hm3 : MapAt wz mm (once ((L2.map (·.2)).take (j + 1))))
            have HRZ := Lib.hid (ownsRow_of_block hrx fun i hi => hgz.block i (hrx.lt i hi).2 (by obtain rfl : kb = i := (by simpa [Value.ownBlock] using hi); intro e; exact HKM.out (by injection e)))
            unfold ptV at f1 f2 f3 f5
            generalize (ps.take j).length = jl at *
            clear hwy hwz htx hmx hmd hbx hx0 hm2 hm3 htz htk hlen hlv q1 q2 q3 q4 hown2 hag2 hzp hlv2 hqv hgz hrx hpsd
            go_region
            go_wp2_with fail
            go_roundg (ll - (j + 1))
            case measure => have := HGJ.out; omega
            case rel => exact ⟨j + 1, rfl, by omega, by go_num, HTZ.out, HMZ.out, HRZ.out⟩
          · obtain rfl : j = ll := by omega
            go_wp2_with fail
            go_roundg (mo - (k + 1))
            case measure => have := HGK.out; omega
            case rel => exact ⟨k + 1, M2, L2, rfl, by omega, by go_num, HST.out, HON.out⟩
    · obtain rfl : k = mo := by omega
      go_wp2_with fail
      go_ret
      exact ⟨rfl, HST.out.bel⟩
end Go.Proofs.Ytelindgnkpfkiaa
