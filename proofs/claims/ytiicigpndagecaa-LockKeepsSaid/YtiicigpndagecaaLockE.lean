/-
  LockKeeps: the walk. Conditions: none.
-/
import Derived.Test.YtiicigpndagecaaLockD
namespace Go.Proofs.Ytiicigpndagecaa
open Go.RowKit Go.BigFrame
set_option linter.unusedVariables false
set_option linter.unusedSimpArgs false

/-- What opens: by whose branch. -/
theorem open_inv {s : ByteArray} {t : PTx} {i : Int} (h : openOf s t i = 0) : ∃ (k : Nat) (x : PIn) (l : List PBr) (n tg : Nat) (br : PBr), i = k ∧ t.ins[k]? = some x ∧ lockGet s = some l ∧ signedOf x.wit = some (n, tg) ∧ l[n]? = some br ∧ br.Ok ∧
    (br.tag = 0 ∨ br.tag = tg) ∧ br.delay ≤ waitsOf t k ∧ (br.height = 0 ∨ (br.height ≤ t.lock ∧ x.seq ≠ 4294967295)) := by
  cases hin : isIn t i with
  | false => rw [openOf_no hin] at h; cases h
  | true =>
    obtain ⟨k, rfl, hk⟩ := isIn_nat hin
    obtain ⟨x, hx⟩ : ∃ x, t.ins[k]? = some x := ⟨_, List.getElem?_eq_getElem hk⟩
    rw [openOf_at hx] at h
    have hok : (chosenOf s x.wit).1.Ok := chosen_lt
    have h2 : (chosenOf s x.wit).2 = true := by
      cases hc : (chosenOf s x.wit).2 with
      | true => rfl
      | false => unfold openAt at h; simp only [hc, if_true] at h; omega
    obtain ⟨l, n, tg, br, hl, hs, hn, hch⟩ : ∃ l n tg br, lockGet s = some l ∧ signedOf x.wit = some (n, tg) ∧ l[n]? = some br ∧ chosenOf s x.wit = (br, br.tag == 0 || br.tag == tg) := by
      unfold chosenOf at h2 ⊢
      cases hl : lockGet s with
      | none => simp [hl] at h2
      | some l =>
        cases hs : signedOf x.wit with
        | none => simp [hl, hs] at h2
        | some p =>
          obtain ⟨n, tg⟩ := p
          cases hn : l[n]? with
          | none => simp [hl, hs, hn] at h2
          | some br => exact ⟨l, n, tg, br, rfl, rfl, hn, by simp [hn]⟩
    rw [hch] at hok h2
    dsimp only at hok h2
    unfold openAt at h
    simp only [hch, h2] at h
    refine ⟨k, x, l, n, tg, br, rfl, hx, hl, hs, hn, hok, by simpa using h2, ?_, ?_⟩
    · rcases Nat.lt_or_ge (waitsOf t k) br.delay with h3 | h3
      · simp [h3] at h
      · exact h3
    · rcases Nat.eq_zero_or_pos br.height with h0 | h0
      · exact .inl h0
      · refine .inr ?_
        have h3 : ¬ (0 < br.height ∧ (t.lock < br.height ∨ x.seq = 4294967295)) := by
          intro h4
          rcases Nat.lt_or_ge (waitsOf t k) br.delay with h5 | h5
          · simp [h5] at h
          · simp [h4, Nat.not_lt.2 h5] at h
        refine ⟨?_, fun h4 => h3 ⟨h0, .inr h4⟩⟩
        rcases Nat.lt_or_ge t.lock br.height with h4 | h4
        · exact absurd ⟨h0, .inl h4⟩ h3
        · exact h4

theorem ripe_inv {t : PTx} {k : Nat} {c h : Int} {x : PIn} {br : PBr} (hx : t.ins[k]? = some x) (hr : ripeOf t k c h = true) (hd : br.delay ≤ waitsOf t k) (hh : br.height = 0 ∨ (br.height ≤ t.lock ∧ x.seq ≠ 4294967295)) :
    c + br.delay ≤ h ∧ (br.height = 0 ∨ (br.height : Int) < h) := by
  unfold ripeOf at hr
  simp only [Bool.and_eq_true, Bool.or_eq_true, decide_eq_true_eq, Int.toNat_natCast] at hr
  obtain ⟨⟨-, h4⟩, h5⟩ := hr
  refine ⟨by omega, ?_⟩
  rcases hh with h0 | ⟨h0, h1⟩
  · exact .inl h0
  · rcases h5 with h5 | h5
    · exact .inr (by omega)
    · exfalso
      have := List.all_eq_true.1 h5 x (List.mem_of_getElem? hx)
      unfold lastSeq at this
      exact h1 (of_decide_eq_true this)

set_option maxRecDepth 100000 in
set_option maxHeartbeats 4000000 in
theorem lockKeeps_walk (v : Value) (z : PSpend) (w : World) (hv : SpAt w v z) :
    Calls Try.prog 5 #[v] w fun e w' => e = .returned (.bool true) ∧ Below w.heap.size w w' := by
  obtain ⟨vb, va, vo, rfl, hb, ht⟩ := hv.is
  have HV := Lib.hid hv
  clear hv hb ht
  obtain ⟨xs, s, t, n3, n4, n5, raw, own, br, tg⟩ := z
  dsimp only at *
  have ha : Below w.heap.size w (w.alloc (.cells #[vb, .string s, .int .u32 t.ver, va, vo, .int .u32 t.lock, .int .i64 n3, .int .i64 n4, .int .i64 n5, .bool raw, .bool own, .int .u8 br, .int .u8 tg] 29)) := (Below.refl _ _).alloc (Nat.le_refl _) _
  have HAL := Lib.hid ha
  clear ha
  go_enter Try.func5, Try.ntmps5
  go_wp2_with fail
  refine (script_any _ _ _ (HV.out.below HAL.out)).mono ?_
  rintro e w1 ⟨sc, rfl, hsc, hb1⟩
  have hz1 := box_kept hb1
  have H1 := Lib.hid (HAL.out.trans (hb1.mono HAL.out.size))
  have zw1_0 : w1.cell? ⟨w.heap.size, 0, none⟩ = some (vb) := cell_at hz1
  have zw1_1 : w1.cell? ⟨w.heap.size, 1, none⟩ = some (.string s) := cell_at hz1
  have zw1_2 : w1.cell? ⟨w.heap.size, 2, none⟩ = some (.int .u32 t.ver) := cell_at hz1
  have zw1_3 : w1.cell? ⟨w.heap.size, 3, none⟩ = some (va) := cell_at hz1
  have zw1_4 : w1.cell? ⟨w.heap.size, 4, none⟩ = some (vo) := cell_at hz1
  have zw1_5 : w1.cell? ⟨w.heap.size, 5, none⟩ = some (.int .u32 t.lock) := cell_at hz1
  have zw1_6 : w1.cell? ⟨w.heap.size, 6, none⟩ = some (.int .i64 n3) := cell_at hz1
  have zw1_7 : w1.cell? ⟨w.heap.size, 7, none⟩ = some (.int .i64 n4) := cell_at hz1
  have zw1_8 : w1.cell? ⟨w.heap.size, 8, none⟩ = some (.int .i64 n5) := cell_at hz1
  have zw1_9 : w1.cell? ⟨w.heap.size, 9, none⟩ = some (.bool raw) := cell_at hz1
  have zw1_10 : w1.cell? ⟨w.heap.size, 10, none⟩ = some (.bool own) := cell_at hz1
  have zw1_11 : w1.cell? ⟨w.heap.size, 11, none⟩ = some (.int .u8 br) := cell_at hz1
  have zw1_12 : w1.cell? ⟨w.heap.size, 12, none⟩ = some (.int .u8 tg) := cell_at hz1
  have HZ1 := Lib.hid hz1
  clear hz1 hb1
  go_wp2_with fail
  refine (spending_any _ _ _ (HV.out.below H1.out)).mono ?_
  rintro e w2 ⟨v2, t2, i2, rfl, ht2, hi2, hb2⟩
  have hz2 := kept_on HZ1.out hb2
  have H2 := Lib.hid (H1.out.trans (hb2.mono H1.out.size))
  obtain ⟨va2, vo2, rfl, hia, hoa, hver, hlock⟩ := id ht2
  obtain ⟨ver2, ins2, outs2, lock2⟩ := t2
  dsimp only at hia hoa hver hlock
  obtain ⟨a2, c2, rfl, hlc2, hmx2⟩ := hia.shape
  obtain ⟨a3, c3, rfl, -, -⟩ := hoa.shape
  have HT2 := Lib.hid ht2
  have HIA := Lib.hid hia
  have HZ2 := Lib.hid hz2
  clear hz2 hb2 ht2 hia hoa hver hlock HZ1
  clear zw1_0 zw1_1 zw1_2 zw1_3 zw1_4 zw1_5 zw1_6 zw1_7 zw1_8 zw1_9 zw1_10 zw1_11 zw1_12
  rw [maxLen_eq] at hmx2
  generalize hn2 : ins2.length = N2 at *
  generalize hm2 : outs2.length = M2 at *
  have HN2 := Lib.hid hn2
  clear hn2 hm2
  go_wp2_with fail
  have hT := heap_alloc_new w2 (.cells #[.int .u32 ver2, .slice a2 N2 c2, .slice a3 M2 c3, .int .u32 lock2] 27)
  have hb3 : Below w2.heap.size w2 (w2.alloc (.cells #[.int .u32 ver2, .slice a2 N2 c2, .slice a3 M2 c3, .int .u32 lock2] 27)) := (Below.refl _ _).alloc (Nat.le_refl _) _
  generalize w2.alloc (.cells #[.int .u32 ver2, .slice a2 N2 c2, .slice a3 M2 c3, .int .u32 lock2] 27) = w3 at *
  have HT3 := Lib.hid (HT2.out.below hb3)
  have HI3 := Lib.hid (HIA.out.below hb3)
  have HZ3 := Lib.hid (kept_on HZ2.out hb3)
  have H3 := Lib.hid (H2.out.trans (hb3.mono H2.out.size))
  have HTB := Lib.hid hT
  clear hT hb3 HT2 HZ2 HIA
  refine (lget_any sc hsc _).mono ?_
  rintro e w4 ⟨v4, rfl, hv4, hb4, -⟩
  obtain ⟨a4, c4, rfl, hl4, hm4⟩ := hv4.shape
  rw [maxLen_eq] at hm4
  have hT4 := kept_on HTB.out hb4
  have t0 : w4.cell? ⟨w2.heap.size, 0, none⟩ = some (.int .u32 ver2) := cell_at hT4
  have t1 : w4.cell? ⟨w2.heap.size, 1, none⟩ = some (.slice a2 N2 c2) := cell_at hT4
  have t2 : w4.cell? ⟨w2.heap.size, 2, none⟩ = some (.slice a3 M2 c3) := cell_at hT4
  have t3 : w4.cell? ⟨w2.heap.size, 3, none⟩ = some (.int .u32 lock2) := cell_at hT4
  have HT4 := Lib.hid (HT3.out.below hb4)
  have HI4 := Lib.hid (HI3.out.below hb4)
  have HZ4 := Lib.hid (kept_on HZ3.out hb4)
  have H4 := Lib.hid (H3.out.trans (hb4.mono H3.out.size))
  have HTB4 := Lib.hid hT4
  have HV4 := Lib.hid hv4
  clear hT4 hb4 hv4 HTB HZ3 HI3
  obtain ⟨ge, hge⟩ : ∃ g : Int, g = (if (lockGet sc).isSome = true then (0 : Int) else 4) := ⟨_, rfl⟩
  rw [← hge]
  have HGE := Lib.hid hge
  clear hge
  go_wp2_with fail
  refine (open_any sc hsc _ ⟨ver2, ins2, outs2, lock2⟩ i2 _ HT4.out).mono ?_
  rintro e w5 ⟨rfl, hb5⟩
  have HT5 := Lib.hid (HT4.out.below hb5)
  have HI5 := Lib.hid (HI4.out.below hb5)
  have HZ5 := Lib.hid (kept_on HZ4.out hb5)
  have HTB5 := Lib.hid (kept_on HTB4.out hb5)
  have HV5 := Lib.hid (HV4.out.below hb5)
  have H5 := Lib.hid (H4.out.trans (hb5.mono H4.out.size))
  clear hb5 t0 t1 t2 t3
  by_cases hop : openOf sc ⟨ver2, ins2, outs2, lock2⟩ i2 = 0
  case neg =>
    have hopb : (openOf sc ⟨ver2, ins2, outs2, lock2⟩ i2 != 0) = true := by rw [bne_iff_ne]; exact hop
    clear hop
    go_wp2_with fail
    refine (wakes_any _).mono ?_
    rintro e w6 ⟨rfl, hb6⟩
    have H6 := Lib.hid (H5.out.trans (hb6.mono H5.out.size))
    clear hb6
    go_wp2
    go_ret
    exact ⟨rfl, H6.out⟩
  case pos =>
    obtain ⟨k, x, l, n, tg', bx, rfl, hx, hl, hsg, hln, hbo, htag, hdl, hhg⟩ := open_inv hop
    have hl' := hl
    have hge : ge = 0 := by rw [HGE.out, hl]; rfl
    subst hge
    rw [hl] at HV5
    dsimp only [Option.getD] at HV5
    rw [hop]
    have hkN : k < N2 := by
      have := (List.getElem?_eq_some_iff.1 hx).1
      dsimp only at this
      rw [HN2.out] at this
      exact this
    obtain ⟨b, o, x', wv, rfl, hx', hseq, hidx, hid, hwv, -, -, -, d3⟩ := HI5.out.inp hkN
    obtain rfl : x = x' := by
      dsimp only at hx
      rw [hx'] at hx
      exact (Option.some.inj hx).symm
    obtain ⟨wa, wc, rfl, -, -⟩ := hwv.shape
    have hln2 := signedOf_lt hsg
    have hll : n < l.length := (List.getElem?_eq_some_iff.1 hln).1
    have HOPX := Lib.hid hop
    have HXX := Lib.hid hx
    have HLN := Lib.hid hln
    have HSG := Lib.hid hsg
    have HD := Lib.hid (And.intro htag (And.intro hdl hhg))
    have HWV := Lib.hid hwv
    have HBO := Lib.hid hbo
    have hlen : ((lockGet sc).getD []).length = l.length := by rw [hl]; rfl
    rw [hlen]
    rw [hlen] at hl4
    clear hop hx hl hl' hln hsg htag hdl hhg hwv hbo hx' hseq hidx hid hlen
    generalize hLL : l.length = L at *
    have HLL := Lib.hid hLL
    clear hLL
    have hT5 := HTB5.out
    have t0 : w5.cell? ⟨w2.heap.size, 0, none⟩ = some (.int .u32 ver2) := cell_at hT5
    have t1 : w5.cell? ⟨w2.heap.size, 1, none⟩ = some (.slice (some ⟨b, o, none⟩) N2 c2) := cell_at hT5
    have t2 : w5.cell? ⟨w2.heap.size, 2, none⟩ = some (.slice a3 M2 c3) := cell_at hT5
    have t3 : w5.cell? ⟨w2.heap.size, 3, none⟩ = some (.int .u32 lock2) := cell_at hT5
    clear hT5
    go_wp2_with fail
    refine (signed_any _ x.wit _ HWV.out).mono ?_
    rintro e w6 ⟨rfl, hb6⟩
    rw [HSG.out]
    simp only [Option.getD, Option.isSome, if_true]
    have HT6 := Lib.hid (HT5.out.below hb6)
    have HZ6 := Lib.hid (kept_on HZ5.out hb6)
    have HTB6 := Lib.hid (kept_on HTB5.out hb6)
    have HV6 := Lib.hid (HV5.out.below hb6)
    have H6 := Lib.hid (H5.out.trans (hb6.mono H5.out.size))
    clear hb6 t0 t1 t2 t3 d3
    go_wp2_with fail
    refine (wakes_any _).mono ?_
    rintro e w7 ⟨rfl, hb7⟩
    have HT7 := Lib.hid (HT6.out.below hb7)
    have hz7 := kept_on HZ6.out hb7
    have hT7 := kept_on HTB6.out hb7
    have hv7 := HV6.out.below hb7
    have H7 := Lib.hid (H6.out.trans (hb7.mono H6.out.size))
    clear hb7
    have zw7_7 : w7.cell? ⟨w.heap.size, 7, none⟩ = some (.int .i64 n4) := cell_at hz7
    have zw7_8 : w7.cell? ⟨w.heap.size, 8, none⟩ = some (.int .i64 n5) := cell_at hz7
    have t0 : w7.cell? ⟨w2.heap.size, 0, none⟩ = some (.int .u32 ver2) := cell_at hT7
    have t1 : w7.cell? ⟨w2.heap.size, 1, none⟩ = some (.slice (some ⟨b, o, none⟩) N2 c2) := cell_at hT7
    have t2 : w7.cell? ⟨w2.heap.size, 2, none⟩ = some (.slice a3 M2 c3) := cell_at hT7
    have t3 : w7.cell? ⟨w2.heap.size, 3, none⟩ = some (.int .u32 lock2) := cell_at hT7
    have hv7' : SlAt rpBr w7 (.slice a4 L c4) l := by
      have e : (some l).getD [] = l := rfl
      try rw [HLL.out] at hv7
      exact hv7
    obtain ⟨bl, ol, y, rfl, hy, -, e0, e1, e2⟩ := hv7'.br hll
    obtain rfl : bx = y := by
      have := HLN.out
      rw [hy] at this
      exact (Option.some.inj this).symm
    clear hz7 hT7 hv7 hv7' hy
    obtain ⟨btag, bdel, bhgt⟩ := bx
    dsimp only at e0 e1 e2
    have hdl := HD.out.2.1
    have hhg := HD.out.2.2
    have hbd := HBO.out.delay
    have hbh := HBO.out.height
    have hbt := HBO.out.tag
    dsimp only at hdl hhg hbd hbh hbt
    have HDL := Lib.hid hdl
    have HHG := Lib.hid hhg
    clear hdl hhg
    have htagc : btag = 0 ∨ (btag ≠ 0 ∧ btag = tg') := by
      have := HD.out.1
      dsimp only at this
      omega
    have hfin : ∀ w8, Below w7.heap.size w7 w8 → Below w.heap.size w w8 := fun w8 h => H7.out.trans (h.mono H7.out.size)
    have HFIN := Lib.hid hfin
    clear hfin
    rcases htagc with hz | ⟨hz, rfl⟩
    case' inl => have hzb : ((btag : Int) != 0) = false := by rw [hz]; rfl
    case' inr =>
      have hzb : ((btag : Int) != 0) = true := by rw [bne_iff_ne]; omega
      have hzc : ((btag : Int) != (btag : Int)) = false := by simp
    all_goals
      clear hz
      go_wp2_with fail
      go_quiet (fail)
      go_wp2_with fail
      have hcc : 0 ≤ max 0 n4 % 300 ∧ max 0 n4 % 300 < 300 := ⟨Int.emod_nonneg _ (by decide), Int.emod_lt_of_pos _ (by decide)⟩
      have hhh : 0 ≤ max 0 n5 % 600 ∧ max 0 n5 % 600 < 600 := ⟨Int.emod_nonneg _ (by decide), Int.emod_lt_of_pos _ (by decide)⟩
      generalize max 0 n4 % 300 = cc at *
      generalize max 0 n5 % 600 = hh at *
      have hbq : Below w7.heap.size w7 (w7.drewN nq) := ⟨rfl, rfl, rfl, Nat.le_refl _, fun _ _ => rfl⟩
      refine (ripe_any _ ⟨ver2, ins2, outs2, lock2⟩ k cc hh _ (HT7.out.below hbq) (by omega)).mono ?_
      rintro e w8 ⟨rfl, hb8⟩
      have hb78 : Below w7.heap.size w7 w8 := hbq.trans hb8
      have g1 := below_cells hb78 _ _ e1
      have g2 := below_cells hb78 _ _ e2
      have H8 := Lib.hid (HFIN.out _ hb78)
      clear hbq hb8 hb78 e0 e1 e2 t0 t1 t2 t3
      cases hrp : ripeOf ⟨ver2, ins2, outs2, lock2⟩ k cc hh with
      | false =>
        clear hrp
        go_wp2
        go_ret
        exact ⟨rfl, H8.out⟩
      | true =>
        obtain ⟨r1, r2⟩ := ripe_inv (br := ⟨btag, bdel, bhgt⟩) HXX.out hrp HDL.out HHG.out
        dsimp only at r1 r2
        clear hrp
        rcases r2 with r2 | r2
        · have hb0 : ((bhgt : Int) == 0) = true := by rw [r2]; rfl
          clear r2
          go_wp2
          go_ret
          exact ⟨rfl, H8.out⟩
        · by_cases hz0 : bhgt = 0
          · have hb0 : ((bhgt : Int) == 0) = true := by rw [hz0]; rfl
            clear hz0 r2
            go_wp2
            go_ret
            exact ⟨rfl, H8.out⟩
          · have hb0 : ((bhgt : Int) == 0) = false := by rw [beq_eq_false_iff_ne]; omega
            clear hz0
            go_wp2
            go_ret
            exact ⟨rfl, H8.out⟩
end Go.Proofs.Ytiicigpndagecaa
