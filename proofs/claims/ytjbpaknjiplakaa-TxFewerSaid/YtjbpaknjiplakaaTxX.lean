/-
  TxChecks: the walk. Conditions: none.
-/
import Derived.Test.YtjbpaknjiplakaaTxW
namespace Go.Proofs.Ytjbpaknjiplakaa
open Go.RowKit Go.BigFrame
set_option linter.unusedVariables false
set_option linter.unusedSimpArgs false

theorem cut12_any (v : Value) (t : PTx) (w : World) (hv : TxAt w v t) : Calls Try.prog 9 #[v, .int .i64 12] w (CutIs 12 t w) := cut_any v t 12 w hv (by decide)
theorem cut12_len (t : PTx) : (cutTx 12 t).outs.length ≤ 1000 := by unfold cutTx; simp; omega
theorem fitted_len {t : PTx} (h : Fitted t) : t.outs.length ≤ 1000 := Nat.le_trans h.few.2 (by omega)
/-- Two transactions, one behind the other in a row of their own. -/
structure TwoTx (w : World) (L : Nat) (t1 t2 : PTx) (wr : World) : Prop where
  bel : Below w.heap.size w wr
  at_ : ∀ k, k < 2 → ∃ u a1 n1 c1 a2 n2 c2, (u = t1 ∨ u = t2) ∧ TxAt wr (.agg #[.int .u32 u.ver, .slice a1 n1 c1, .slice a2 n2 c2, .int .u32 u.lock]) u ∧
    wr.cell? ⟨L, k * 4, none⟩ = some (.int .u32 u.ver) ∧ wr.cell? ⟨L, k * 4 + 1, none⟩ = some (.slice a1 n1 c1) ∧ wr.cell? ⟨L, k * 4 + 2, none⟩ = some (.slice a2 n2 c2) ∧ wr.cell? ⟨L, k * 4 + 3, none⟩ = some (.int .u32 u.lock)
theorem TwoTx.next {w wr w' : World} {L : Nat} {t1 t2 : PTx} (h : TwoTx w L t1 t2 wr) (hb : Below wr.heap.size wr w') : TwoTx w L t1 t2 w' :=
  ⟨h.bel.trans (hb.mono h.bel.size), fun k hk => let ⟨u, a1, n1, c1, a2, n2, c2, h0, h1, h2, h3, h4, h5⟩ := h.at_ k hk
    ⟨u, a1, n1, c1, a2, n2, c2, h0, h1.below hb, below_cells hb _ _ h2, below_cells hb _ _ h3, below_cells hb _ _ h4, below_cells hb _ _ h5⟩⟩

set_option maxRecDepth 100000 in
set_option maxHeartbeats 4000000 in
theorem txChecks_walk (v : Value) (t : PTx) (w : World) (hv : TxAt w v t) : Calls Try.prog 3 #[v] w (BIs true w) := by
  obtain ⟨va, vo, rfl, hia, hob, hv1, hv2⟩ := hv
  obtain ⟨a, c, rfl, hl1, hl2⟩ := hia.shape
  obtain ⟨a', c', rfl, hl1', hl2'⟩ := hob.shape
  have htb := TB.start hia hob
  have HTB := Lib.hid htb
  have HV := Lib.hid (And.intro hv1 hv2)
  clear htb hia hob hv1 hv2 hl1 hl2 hl1' hl2'
  obtain ⟨n, hn⟩ : ∃ n, n = t.ins.length := ⟨_, rfl⟩
  obtain ⟨n', hn'⟩ : ∃ n, n = t.outs.length := ⟨_, rfl⟩
  rw [← hn, ← hn'] at HTB
  rw [← hn, ← hn']
  clear hn hn'
  go_enter Try.func3, Try.ntmps3
  go_upto_region 1 with fail
  generalize w.alloc (.cells #[.int .u32 t.ver, .slice a n c, .slice a' n' c', .int .u32 t.lock] 26) = w0 at *
  have c0 : w0.cell? ⟨w.heap.size, 0, none⟩ = some (.int .u32 t.ver) := cell_at HTB.out.box
  have c1 : w0.cell? ⟨w.heap.size, 1, none⟩ = some (.slice a n c) := cell_at HTB.out.box
  have c2 : w0.cell? ⟨w.heap.size, 2, none⟩ = some (.slice a' n' c') := cell_at HTB.out.box
  have c3 : w0.cell? ⟨w.heap.size, 3, none⟩ = some (.int .u32 t.lock) := cell_at HTB.out.box
  have hbd : Below w0.heap.size w0 w0.drew := ⟨rfl, rfl, rfl, Nat.le_refl _, fun _ _ => rfl⟩
  have HTX := Lib.hid (HTB.out.tx HV.out)
  have HTD := Lib.hid ((HTB.out.tx HV.out).below hbd)
  have HB0 := Lib.hid (HTB.out.bel.trans (hbd.mono HTB.out.bel.size))
  clear HTB hbd
  go_region_held (fun w' => w'.cell? ⟨w.heap.size, 0, none⟩ = some (.int .u32 t.ver) ∧ w'.cell? ⟨w.heap.size, 1, none⟩ = some (.slice a n c) ∧ w'.cell? ⟨w.heap.size, 2, none⟩ = some (.slice a' n' c') ∧ w'.cell? ⟨w.heap.size, 3, none⟩ = some (.int .u32 t.lock))
    (first | exact ⟨c0, c1, c2, c3⟩ | exact ⟨below_cells hb1 _ _ c0, below_cells hb1 _ _ c1, below_cells hb1 _ _ c2, below_cells hb1 _ _ c3⟩ | exact ⟨below_cells hb2 _ _ (below_cells hb1 _ _ c0), below_cells hb2 _ _ (below_cells hb1 _ _ c1), below_cells hb2 _ _ (below_cells hb1 _ _ c2), below_cells hb2 _ _ (below_cells hb1 _ _ c3)⟩ | go_keep)
    (first
      | (go_at_call 9; refine (cut12_any _ t _ HTD.out).mono ?_; rintro e w1 ⟨v1, rfl, hown1, hb1⟩; obtain ⟨⟨vi1, vo1, ps1, rfl, hp1, hi1, ho1, ha1⟩, hv1, hv1'⟩ := id hown1; obtain ⟨ai1, ci1, rfl, -, -⟩ := ownsRow_shape hi1.row; obtain ⟨ao1, co1, rfl, -, -⟩ := ownsRow_shape ho1.row)
      | (go_at_call 10; refine (fit_any _ t _ (HTD.out.below hb1)).mono ?_; rintro e w2 ⟨v2, t2, rfl, hown2, hfit2, hb2⟩; obtain ⟨⟨vi2, vo2, ps2, rfl, hp2, hi2, ho2, ha2⟩, hv2, hv2'⟩ := id hown2; obtain ⟨ai2, ci2, rfl, -, -⟩ := ownsRow_shape hi2.row; obtain ⟨ao2, co2, rfl, -, -⟩ := ownsRow_shape ho2.row))
  have hL := heap_alloc_new w2 (.cells #[.int .u32 (cutTx 12 t).ver, .slice ai1 ps1.length ci1, .slice ao1 (cutTx 12 t).outs.length co1, .int .u32 (cutTx 12 t).lock, .int .u32 t2.ver, .slice ai2 ps2.length ci2, .slice ao2 t2.outs.length co2, .int .u32 t2.lock] 26)
  have hbL : Below w2.heap.size w2 (w2.alloc (.cells #[.int .u32 (cutTx 12 t).ver, .slice ai1 ps1.length ci1, .slice ao1 (cutTx 12 t).outs.length co1, .int .u32 (cutTx 12 t).lock, .int .u32 t2.ver, .slice ai2 ps2.length ci2, .slice ao2 t2.outs.length co2, .int .u32 t2.lock] 26)) := (Below.refl _ _).alloc (Nat.le_refl _) _
  obtain ⟨L, hLL⟩ : ∃ L, L = w2.heap.size := ⟨_, rfl⟩
  rw [← hLL] at hL ⊢
  generalize w2.alloc (.cells #[.int .u32 (cutTx 12 t).ver, .slice ai1 ps1.length ci1, .slice ao1 (cutTx 12 t).outs.length co1, .int .u32 (cutTx 12 t).lock, .int .u32 t2.ver, .slice ai2 ps2.length ci2, .slice ao2 t2.outs.length co2, .int .u32 t2.lock] 26) = w3 at *
  have htwo : TwoTx w L (cutTx 12 t) t2 w3 := by
    have hb13 := (hb2.trans (hbL.mono hb2.size))
    refine ⟨(HB0.out.trans (hb1.mono HB0.out.size)).trans (hb13.mono (Nat.le_trans HB0.out.size hb1.size)), fun k hk => ?_⟩
    match k, hk with
    | 0, _ => exact ⟨cutTx 12 t, _, _, _, _, _, _, .inl rfl, hown1.tx.below hb13, by rw [cell_at hL]; rfl, by rw [cell_at hL]; rfl, by rw [cell_at hL]; rfl, by rw [cell_at hL]; rfl⟩
    | 1, _ => exact ⟨t2, _, _, _, _, _, _, .inr rfl, hown2.tx.below hbL, by rw [cell_at hL]; rfl, by rw [cell_at hL]; rfl, by rw [cell_at hL]; rfl, by rw [cell_at hL]; rfl⟩
  have HTW := Lib.hid htwo
  have HFL := Lib.hid (fitted_len hfit2)
  clear htwo hL hbL hLL hb1 hb2 hv1 hv1' hp1 hi1 ho1 hown1 ha1 hfit2 hv2 hv2' hp2 hi2 ho2 hown2 ha2 c0 c1 c2 c3 HTX HTD HB0
  go_wp2_with fail
  go_loopg [15] 2 (fun g i wr => ∃ k : Nat, g = 2 - k ∧ k ≤ 2 ∧ i = .int .i64 k ∧ TwoTx w L (cutTx 12 t) t2 wr)
  case atStart => exact ⟨0, rfl, by omega, rfl, HTW.out⟩
  case round =>
    clear HTW
    rename World => wo
    obtain ⟨k, hgk, hk, rfl, htw⟩ := hrel
    have HGK := Lib.hid hgk
    have HTW := Lib.hid htw
    clear hgk htw
    by_cases hlt : k < 2
    · obtain ⟨u, a1, n1, c1, a2, n2, c2, hu, htx, d0, d1, d2, d3⟩ := HTW.out.at_ k hlt
      have hul : u.outs.length ≤ 1000 := by
        rcases hu with rfl | rfl
        · exact cut12_len t
        · exact HFL.out
      have HUL := Lib.hid hul
      have hlo : (0 : Int) ≤ (k : Int) := by omega
      have hhi : (k : Int) < 2 := by omega
      clear hu hul
      go_upto_region 4 with fail
      have hz := heap_alloc_new wo (.cells #[.int .u32 u.ver, .slice a1 n1 c1, .slice a2 n2 c2, .int .u32 u.lock] 26)
      have hal : Below wo.heap.size wo (wo.alloc (.cells #[.int .u32 u.ver, .slice a1 n1 c1, .slice a2 n2 c2, .int .u32 u.lock] 26)) := (Below.refl _ _).alloc (Nat.le_refl _) _
      have HTX := Lib.hid (htx.below hal)
      have HTW := Lib.hid (HTW.out.next hal)
      obtain ⟨X, hX⟩ : ∃ X, X = wo.heap.size := ⟨_, rfl⟩
      rw [← hX] at hz ⊢
      generalize wo.alloc (.cells #[.int .u32 u.ver, .slice a1 n1 c1, .slice a2 n2 c2, .int .u32 u.lock] 26) = wa at *
      have e0 : wa.cell? ⟨X, 0, none⟩ = some (.int .u32 u.ver) := cell_at hz
      have e1 : wa.cell? ⟨X, 1, none⟩ = some (.slice a1 n1 c1) := cell_at hz
      have e2 : wa.cell? ⟨X, 2, none⟩ = some (.slice a2 n2 c2) := cell_at hz
      have e3 : wa.cell? ⟨X, 3, none⟩ = some (.int .u32 u.lock) := cell_at hz
      clear hz hal hX htx d0 d1 d2 d3
      obtain ⟨sm, hsm⟩ : ∃ sm, sm = sumA 0 (u.outs.map (·.val)) := ⟨_, rfl⟩
      go_wp2_with fail
      refine (total_any _ u wa HTX.out HUL.out).mono ?_
      rintro e w4 ⟨rfl, hb⟩
      rw [← hsm]
      have HTX := Lib.hid (HTX.out.below hb)
      have HTW := Lib.hid (HTW.out.next hb)
      replace e0 := below_cells hb _ _ e0
      replace e1 := below_cells hb _ _ e1
      replace e2 := below_cells hb _ _ e2
      replace e3 := below_cells hb _ _ e3
      clear hb
      have HSM := Lib.hid hsm
      clear hsm
      go_wp2_with fail
      refine (rtotal_any _ u w4 HTX.out HUL.out).mono ?_
      rintro e w5 ⟨rfl, hb⟩
      rw [← HSM.out]
      have HTX := Lib.hid (HTX.out.below hb)
      have HTW := Lib.hid (HTW.out.next hb)
      replace e0 := below_cells hb _ _ e0
      replace e1 := below_cells hb _ _ e1
      replace e2 := below_cells hb _ _ e2
      replace e3 := below_cells hb _ _ e3
      clear hb
      go_wp2_with fail
      obtain ⟨C, hC⟩ : ∃ C : World → Prop, C = fun w' => Below w5.heap.size w5 w' := ⟨_, rfl⟩
      have k0 : ∀ y : Kin C, y.w.cell? ⟨X, 0, none⟩ = some (.int .u32 u.ver) := by
        intro ⟨y, h⟩; subst hC; exact below_cells h _ _ e0
      have k1 : ∀ y : Kin C, y.w.cell? ⟨X, 1, none⟩ = some (.slice a1 n1 c1) := by
        intro ⟨y, h⟩; subst hC; exact below_cells h _ _ e1
      have k2 : ∀ y : Kin C, y.w.cell? ⟨X, 2, none⟩ = some (.slice a2 n2 c2) := by
        intro ⟨y, h⟩; subst hC; exact below_cells h _ _ e2
      have k3 : ∀ y : Kin C, y.w.cell? ⟨X, 3, none⟩ = some (.int .u32 u.lock) := by
        intro ⟨y, h⟩; subst hC; exact below_cells h _ _ e3
      have q1 : ∀ y : Kin C, Calls Try.prog 13 #[.agg #[.int .u32 u.ver, .slice a1 n1 c1, .slice a2 n2 c2, .int .u32 u.lock]] y.w fun e w' => e = .returned (.int .i64 (checkOf u)) ∧ C w' := by
        intro y
        obtain ⟨y, h⟩ := y
        subst hC
        exact (check_any _ u y (HTX.out.below h) HUL.out).mono fun e w' ⟨he, hb⟩ => ⟨he, h.trans (hb.mono h.size)⟩
      have q2 : ∀ y : Kin C, Calls Try.prog 14 #[.agg #[.int .u32 u.ver, .slice a1 n1 c1, .slice a2 n2 c2, .int .u32 u.lock]] y.w fun e w' => e = .returned (.int .i64 (checkOf u)) ∧ C w' := by
        intro y
        obtain ⟨y, h⟩ := y
        subst hC
        exact (rcheck_any _ u y (HTX.out.below h) HUL.out).mono fun e w' ⟨he, hb⟩ => ⟨he, h.trans (hb.mono h.size)⟩
      have q3 : ∀ y : Kin C, Calls Try.prog 15 #[.agg #[.int .u32 u.ver, .slice a1 n1 c1, .slice a2 n2 c2, .int .u32 u.lock]] y.w fun e w' => e = .returned (.bool (baseOf u)) ∧ C w' := by
        intro y
        obtain ⟨y, h⟩ := y
        subst hC
        exact (base_tx _ u y (HTX.out.below h)).mono fun e w' ⟨he, hb⟩ => ⟨he, h.trans (hb.mono h.size)⟩
      have Q1 := Lib.hid q1
      have Q2 := Lib.hid q2
      have Q3 := Lib.hid q3
      obtain ⟨ck, hck⟩ : ∃ ck, ck = checkOf u := ⟨_, rfl⟩
      rw [← hck] at Q1 Q2
      have hi := HTX.out
      obtain ⟨va', vo', hval, hia, -, -, -⟩ := hi
      have hval' : Value.slice a1 n1 c1 = va' ∧ Value.slice a2 n2 c2 = vo' := by simpa using hval
      obtain ⟨rfl, rfl⟩ := hval'
      have hln := hia.len.1
      clear hval hck q1 q2 q3
      by_cases h1 : n1 = 1
      · subst h1
        obtain ⟨b, o, x, wv, rfl, hx, hseq, hidx, hid, hwv, g0, g1, -, -⟩ := hia.inp (show 0 < 1 by omega)
        have j0 : ∀ y : Kin C, y.w.cell? ⟨b, o, none⟩ = some (.string x.id) := by
          intro ⟨y, h⟩; subst hC; exact below_cells h _ _ g0
        have j1 : ∀ y : Kin C, y.w.cell? ⟨b, o + 1, none⟩ = some (.int .u32 x.idx) := by
          intro ⟨y, h⟩; subst hC; exact below_cells h _ _ g1
        have q4 : ∀ y : Kin C, Calls Try.prog 16 #[.agg #[.string x.id, .int .u32 x.idx]] y.w fun e w' => e = .returned (.bool (baseOf u)) ∧ C w' := by
          intro y
          obtain ⟨y, h⟩ := y
          subst hC
          rw [baseOf_one hln hx]
          exact (rbase_any x.id x.idx hidx hid y).mono fun e w' ⟨he, hb⟩ => ⟨he, h.trans (hb.mono h.size)⟩
        have Q4 := Lib.hid q4
        have HC := Lib.hid hC
        generalize baseOf u = bb at *
        clear hC q4 hx hwv g0 g1 hia hln hidx hid hseq
        refine wp_region_kin C (by kernel_rfl) (by kernel_rfl) (by rw [HC.out]; exact ⟨rfl, rfl, rfl, Nat.le_refl _, fun _ _ => rfl⟩) ?_
        intro hne
        repeat (first | (go_big_quiet_step (first | (rename_i y; go_at_call 13; exact Calls.kin (Q1.out y) (fun w' h => h)) | (rename_i y; go_at_call 14; exact Calls.kin (Q2.out y) (fun w' h => h)) | (rename_i y; go_at_call 15; exact Calls.kin (Q3.out y) (fun w' h => h)) | (rename_i y; go_at_call 16; exact Calls.kin (Q4.out y) (fun w' h => h)))) | (quiet_step (first | (rename_i y; go_at_call 13; exact Calls.kin (Q1.out y) (fun w' h => h)) | (rename_i y; go_at_call 14; exact Calls.kin (Q2.out y) (fun w' h => h)) | (rename_i y; go_at_call 15; exact Calls.kin (Q3.out y) (fun w' h => h)) | (rename_i y; go_at_call 16; exact Calls.kin (Q4.out y) (fun w' h => h)))))
        refine wpQuiet_nil ?_
        intro _ hw'
        obtain ⟨kx, hw''⟩ := hw'
        subst hw''
        obtain ⟨wy, hxc⟩ := kx
        rw [HC.out] at hxc
        have HTY := Lib.hid (HTW.out.next hxc)
        clear hxc k0 k1 k2 k3
        go_wp2_with fail
        go_roundg (2 - (k + 1))
        case measure => have := HGK.out; omega
        case rel => exact ⟨k + 1, rfl, by omega, by go_num, HTY.out⟩
      · have hbf : baseOf u = false := baseOf_not (by rw [hln]; exact h1)
        have h1i : (n1 : Int) ≠ 1 := by omega
        rw [hbf] at Q3
        have HC := Lib.hid hC
        clear hC hia hln hbf
        refine wp_region_kin C (by kernel_rfl) (by kernel_rfl) (by rw [HC.out]; exact ⟨rfl, rfl, rfl, Nat.le_refl _, fun _ _ => rfl⟩) ?_
        intro hne
        repeat (first | (go_big_quiet_step (first | (rename_i y; go_at_call 13; exact Calls.kin (Q1.out y) (fun w' h => h)) | (rename_i y; go_at_call 14; exact Calls.kin (Q2.out y) (fun w' h => h)) | (rename_i y; go_at_call 15; exact Calls.kin (Q3.out y) (fun w' h => h)))) | (quiet_step (first | (rename_i y; go_at_call 13; exact Calls.kin (Q1.out y) (fun w' h => h)) | (rename_i y; go_at_call 14; exact Calls.kin (Q2.out y) (fun w' h => h)) | (rename_i y; go_at_call 15; exact Calls.kin (Q3.out y) (fun w' h => h)))))
        refine wpQuiet_nil ?_
        intro _ hw'
        obtain ⟨kx, hw''⟩ := hw'
        subst hw''
        obtain ⟨wy, hxc⟩ := kx
        rw [HC.out] at hxc
        have HTY := Lib.hid (HTW.out.next hxc)
        clear hxc k0 k1 k2 k3
        go_wp2_with fail
        go_roundg (2 - (k + 1))
        case measure => have := HGK.out; omega
        case rel => exact ⟨k + 1, rfl, by omega, by go_num, HTY.out⟩
    · obtain rfl : k = 2 := by omega
      go_wp2_with fail
      refine (wakes_any wo).mono ?_
      rintro e w5 ⟨rfl, hb⟩
      have HB5 := Lib.hid (HTW.out.bel.trans (hb.mono HTW.out.bel.size))
      clear hb
      go_wp2_with fail
      go_ret
      exact ⟨rfl, HB5.out⟩
end Go.Proofs.Ytjbpaknjiplakaa
