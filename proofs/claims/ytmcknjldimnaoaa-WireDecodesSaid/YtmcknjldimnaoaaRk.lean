/-
  kedgeref06.Decode. Conditions: the text is not too long.
-/
import Derived.Test.YtmcknjldimnaoaaRj
namespace Go.Proofs.Ytmcknjldimnaoaa
open Go.RowKit Go.BigFrame
set_option linter.unusedVariables false
set_option linter.unusedSimpArgs false

theorem three_new (w : World) (o1 o2 o3 : Obj) : (((w.alloc o1).alloc o2).alloc o3).heap[w.heap.size]? = some o1 ∧ (((w.alloc o1).alloc o2).alloc o3).heap[w.heap.size + 1]? = some o2 ∧ (((w.alloc o1).alloc o2).alloc o3).heap[w.heap.size + 2]? = some o3 ∧ Below w.heap.size w (((w.alloc o1).alloc o2).alloc o3) := by
  obtain ⟨h1, h2, h3⟩ := two_new w o1 o2
  have h4 := heap_alloc_new ((w.alloc o1).alloc o2) o3
  have hs : ((w.alloc o1).alloc o2).heap.size = w.heap.size + 2 := by simp
  have hb : Below ((w.alloc o1).alloc o2).heap.size ((w.alloc o1).alloc o2) (((w.alloc o1).alloc o2).alloc o3) := (Below.refl _ _).alloc (Nat.le_refl _) o3
  rw [hs] at h4
  exact ⟨(hb.block _ (Array.getElem?_eq_some_iff.1 h1).1).trans h1, (hb.block _ (Array.getElem?_eq_some_iff.1 h2).1).trans h2, h4, h3.trans (hb.mono (by omega))⟩

/-- What holds of the witnesses behind k Ins. -/
def WI (l : List UInt8) (mk : Bool) (z6 : Zst) (x4 xs : List PIn) (k : Nat) (zk : Zst) (xk : List PIn) (ab : Bool) : Prop :=
  (mk = false → k = 0 ∧ zk = z6 ∧ xk = x4 ∧ ab = false) ∧ (mk = true → zk = (repZ witZ k l z6).1 ∧ (zk.err = 0 → xk = wdone k xs (repZ witZ k l z6).2 ∧ ab = anyW (repZ witZ k l z6).2))

theorem wi_next {l : List UInt8} {z6 zk zc zj : Zst} {x4 xs xk : List PIn} {k n2 j : Nat} {x : PIn} {wk : List (List ByteArray)} {wj : List ByteArray} {ab : Bool} (i1 : xs[k]? = some x) (i3 : xk = wdone k xs wk) (i4 : ab = anyW wk) (i5 : wk.length = k)
    (i6 : repZ witZ (k + 1) l z6 = ((witZ l zk).1, wk ++ [(witZ l zk).2])) (i7 : witZ l zk = repZ itemZ n2 l zc) (h9 : repZ itemZ j l zc = (zj, wj)) (hw : wj.length = j) (f1 : zj = (repZ itemZ n2 l zc).1) (f2 : zj.err = 0 → j = n2) :
    WI l true z6 x4 xs (k + 1) zj (xk.set k { x with wit := wj }) (ab || decide (0 < n2)) := by
  unfold WI
  refine ⟨fun h => (by cases h), fun _ => ?_⟩
  rw [i6, i7]
  refine ⟨f1, fun h => ?_⟩
  have hjn := f2 h
  subst hjn
  rw [h9, i3]
  refine ⟨wdone_set i1 i5, ?_⟩
  unfold anyW
  rw [List.any_append, i4]
  unfold anyW
  subst hw
  simp
section
variable {l : List UInt8} {mk ab : Bool} {z6 z7 zk : Zst} {x4 xs xk : List PIn} {ws : List (List ByteArray)} {k n : Nat}
theorem wits_state (h7 : wsZ (mk, xs) l z6 = (z7, ws)) (hx : z6.err = 0 → x4 = xs) (hl : xk.length = n) (hi : WI l mk z6 x4 xs k zk xk ab) (hl4 : x4.length = n) (hk : k ≤ n) (hgo : ¬ (mk = true ∧ k < n ∧ zk.err = 0)) (hm : mk = true) :
    (zk.err ≠ 0 → z7 = zk) ∧ (zk.err = 0 → z6.err = 0 ∧ k = n ∧ xs.length = n ∧ repZ witZ n l z6 = (zk, ws) ∧ xk = setW xs ws ∧ ab = anyW ws ∧ z7 = if anyW ws = false then ⟨z6.at_, 4⟩ else zk) := by
  subst hm
  obtain ⟨e1, e2⟩ := hi.2 rfl
  have h7' : witsZ xs.length l z6 = (z7, ws) := h7
  unfold witsZ at h7'
  have ha := congrArg Prod.fst h7'
  have hb := congrArg Prod.snd h7'
  dsimp only at ha hb
  have h6 : zk.err = 0 → z6.err = 0 := fun h => Decidable.by_contra fun h6 => by
    have := (witZ_psr.rep k).stay l z6 h6
    rw [e1, this] at h
    exact h6 h
  have hst : zk.err ≠ 0 → (repZ witZ xs.length l z6).1 = zk := fun h => by
    by_cases h6 : z6.err = 0
    · have hxn : xs.length = n := by rw [← hx h6]; exact hl4
      have := repZ_stay witZ_psr l z6 k (by rw [← e1]; exact h) (n - k)
      rw [show k + (n - k) = n by omega] at this
      rw [hxn, this, e1]
    · rw [(witZ_psr.rep xs.length).stay l z6 h6, e1, (witZ_psr.rep k).stay l z6 h6]
  refine ⟨fun h => ?_, fun h => ?_⟩
  · rw [hst h, if_neg (fun hh => h hh.1)] at ha
    exact ha.symm
  · have hkn : k = n := by
      rcases Nat.lt_or_ge k n with h1 | h1
      · exact absurd ⟨rfl, h1, h⟩ hgo
      · omega
    have hxn : xs.length = n := by rw [← hx (h6 h)]; exact hl4
    subst hkn
    rw [hxn] at ha hb
    have hrep : repZ witZ k l z6 = (zk, ws) := Prod.ext e1.symm hb
    obtain ⟨e3, e4⟩ := e2 h
    rw [hrep] at e3 e4 ha
    dsimp only at e3 e4 ha
    refine ⟨h6 h, rfl, hxn, hrep, e3.trans (wdone_all hxn.symm), e4, ?_⟩
    rw [← ha]
    by_cases hw : anyW ws = false
    · rw [if_pos ⟨h, hw⟩, if_pos hw]
    · rw [if_neg (fun hh => hw hh.2), if_neg hw]
/-- No witness has a text. -/
theorem wits_none (h7 : wsZ (mk, xs) l z6 = (z7, ws)) (hrb : true = (decide (zk.err = 0) && (mk && !ab))) (hx : z6.err = 0 → x4 = xs) (hl : xk.length = n) (hi : WI l mk z6 x4 xs k zk xk ab) (hl4 : x4.length = n) (hk : k ≤ n) (hgo : ¬ (mk = true ∧ k < n ∧ zk.err = 0)) :
    z7 = ⟨z6.at_, 4⟩ := by
  have h1 := hrb.symm
  simp only [Bool.and_eq_true, decide_eq_true_eq, Bool.not_eq_true'] at h1
  obtain ⟨h2, h3, h4⟩ := h1
  obtain ⟨-, -, -, -, -, h5, h6⟩ := (wits_state h7 hx hl hi hl4 hk hgo h3).2 h2
  rw [h6, if_pos (h5 ▸ h4)]
/-- Reading goes on. -/
theorem wits_more (h7 : wsZ (mk, xs) l z6 = (z7, ws)) (hrb : false = (decide (zk.err = 0) && (mk && !ab))) (hx : z6.err = 0 → x4 = xs) (hl : xk.length = n) (hi : WI l mk z6 x4 xs k zk xk ab) (hl4 : x4.length = n) (hk : k ≤ n) (hgo : ¬ (mk = true ∧ k < n ∧ zk.err = 0)) :
    z7 = zk ∧ (zk.err = 0 → z6.err = 0 ∧ xk = if mk = true then setW xs ws else xs) := by
  cases mk
  · obtain ⟨-, rfl, rfl, -⟩ := hi.1 rfl
    have h7' : ((zk, []) : Zst × List (List ByteArray)) = (z7, ws) := h7
    refine ⟨(congrArg Prod.fst h7').symm, fun h => ⟨h, ?_⟩⟩
    rw [if_neg (by simp)]
    exact hx h
  · obtain ⟨s1, s2⟩ := wits_state h7 hx hl hi hl4 hk hgo rfl
    by_cases he : zk.err = 0
    · obtain ⟨h6, -, -, -, h8, h5, h9⟩ := s2 he
      have hab : ab = true := by
        have := hrb.symm
        rw [he] at this
        simpa using this
      refine ⟨?_, fun _ => ⟨h6, ?_⟩⟩
      · rw [h9, if_neg (by rw [← h5, hab]; simp)]
      · rw [if_pos rfl]; exact h8
    · exact ⟨s1 he, fun h => absurd h he⟩
end

set_option maxRecDepth 100000 in
set_option maxHeartbeats 40000000 in
theorem rdecode_any (s : ByteArray) (w : World) (hs : s.size ≤ 9000000000000000000) : Calls Try.prog 28 #[.string s] w (DecIs (decZ s.data.toList) w) := by
  have hs0 : s.size ≤ 9223372036854775000 := by omega
  obtain ⟨z1, ver, hz1⟩ : ∃ q1 q2, numZ 4 4294967295 3 s.data.toList ⟨0, 0⟩ = (q1, q2) := ⟨_, _, rfl⟩
  obtain ⟨z2, mk, hz2⟩ : ∃ q1 q2, markZ s.data.toList z1 = (q1, q2) := ⟨_, _, rfl⟩
  obtain ⟨z4, xs, hz4⟩ : ∃ q1 q2, insZ s.data.toList z2 = (q1, q2) := ⟨_, _, rfl⟩
  obtain ⟨z6, os, hz6⟩ : ∃ q1 q2, outsZ s.data.toList z4 = (q1, q2) := ⟨_, _, rfl⟩
  obtain ⟨z7, ws, hz7⟩ : ∃ q1 q2, wsZ (mk, xs) s.data.toList z6 = (q1, q2) := ⟨_, _, rfl⟩
  obtain ⟨z8, lock, hz8⟩ : ∃ q1 q2, numZ 4 4294967295 3 s.data.toList z7 = (q1, q2) := ⟨_, _, rfl⟩
  have hr : allZ s.data.toList ⟨0, 0⟩ = (z8, (ver, (mk, xs), os, ws, lock)) := by
    unfold allZ miZ seqZ
    rw [hz1]; dsimp only; rw [hz2]; dsimp only; rw [hz4]; dsimp only; rw [hz6]; dsimp only; rw [hz7]; dsimp only; rw [hz8]
  obtain ⟨t, ht⟩ : ∃ t : PTx, t = ⟨ver, if mk = true then setW xs ws else xs, os, lock⟩ := ⟨_, rfl⟩
  obtain ⟨z, hz⟩ : ∃ z, z = endZ s.data.toList z8 := ⟨_, rfl⟩
  have hdec : decZ s.data.toList = if z.err = 0 then (if checkOf t = 0 then (t, s.data.toList.length, 0) else (noTx, z.at_, checkOf t)) else (noTx, z.at_, z.err) := by rw [ht, hz]; unfold decZ; rw [hr]; rfl
  rw [data_len] at hdec
  obtain ⟨r, hrr⟩ : ∃ r, r = decZ s.data.toList := ⟨_, rfl⟩
  rw [← hrr] at hdec ⊢
  have k1 := (numZ_psr 4 4294967295 3 (by decide)).le' (s := s) (z := ⟨0, 0⟩) (Nat.zero_le _)
  rw [hz1] at k1
  have k2 : z2.at_ ≤ s.size := by
    by_cases he : z1.err = 0
    · have := (mark_bound s.data.toList z1 he (by rw [data_len]; exact k1)).2
      rw [hz2, data_len] at this
      exact this
    · have := mark_stay s.data.toList z1 he
      rw [hz2] at this
      have : z2 = z1 := congrArg Prod.fst this
      rw [this]; exact k1
  have k4 := insZ_psr.le' (s := s) k2
  rw [hz4] at k4
  have k6 := outsZ_psr.le' (s := s) k4
  rw [hz6] at k6
  have k7 := (wsZ_psr (mk, xs)).le' (s := s) k6
  rw [hz7] at k7
  have k8 := (numZ_psr 4 4294967295 3 (by decide)).le' (s := s) k7
  rw [hz8] at k8
  dsimp only at k1 k2 k4 k6 k7 k8
  have hver := numZ_le 4 4294967295 3 s.data.toList ⟨0, 0⟩
  rw [hz1] at hver
  have hlk := numZ_le 4 4294967295 3 s.data.toList z7
  rw [hz8] at hlk
  dsimp only at hver hlk
  have hol : t.outs.length ≤ 1000 := by
    have := outs_le s.data.toList ⟨0, 0⟩
    rw [hr] at this
    have h2 : (txOf (ver, (mk, xs), os, ws, lock)).outs.length ≤ 256 := this
    rw [ht]
    exact Nat.le_trans h2 (by decide)
  have q1 := fun y => rnumber_any s ⟨0, 0⟩ 4 4294967295 3 y (.inr (.inr (.inl rfl))) hs0 (Nat.zero_le _) (by decide)
  have q4 := fun y => rins_any s z2 y hs k2
  have q6 := fun y => routs_any s z4 y hs k4
  have q8 := fun y => rnumber_any s z7 4 4294967295 3 y (.inr (.inr (.inl rfl))) hs0 k7 (by decide)
  simp only [hz1, zV] at q1
  simp only [hz4, zV] at q4
  simp only [hz6, zV] at q6
  simp only [hz8, zV] at q8
  have Q1 := Lib.hid q1
  have Q4 := Lib.hid q4
  have Q6 := Lib.hid q6
  have Q8 := Lib.hid q8
  have HZ2 := Lib.hid hz2
  have HZ4 := Lib.hid hz4
  have HZ8 := Lib.hid hz8
  have HZ6 := Lib.hid hz6
  have HZ7 := Lib.hid hz7
  have HD := Lib.hid hdec
  have HT := Lib.hid ht
  have HZ := Lib.hid hz
  have HK := Lib.hid (And.intro hs0 (And.intro k1 (And.intro k6 k8)))
  have HV := Lib.hid (And.intro hver hlk)
  have HOL := Lib.hid hol
  have HS := Lib.hid hs
  have hsI : (s.size : Int) ≤ 9000000000000000000 := by omega
  have hverI : (ver : Int) < 4294967296 := by omega
  have hlockI : (lock : Int) < 4294967296 := by omega
  have hat1 : (z1.at_ : Int) ≤ s.size := by omega
  have hat8 : (z8.at_ : Int) ≤ s.size := by omega
  clear hs0 hs hz1 hz2 hz4 hz6 hz7 hz8 hr ht hz hdec hrr k1 k2 k4 k6 k7 k8 hver hlk hol q1 q4 q6 q8
  go_enter Try.func28, Try.ntmps28
  go_upto_region 3 with fail
  have h3 := three_new w (.cells #[.int .u32 0, .slice none 0 0, .slice none 0 0, .int .u32 0] 26) (.cells #[.int .i64 0, .int .i64 0] 76) (.cells #[.int .u32 0, .slice none 0 0, .slice none 0 0, .int .u32 0] 26)
  obtain ⟨X, hX⟩ : ∃ q, q = w.heap.size := ⟨_, rfl⟩
  rw [← hX] at h3 ⊢
  generalize ((w.alloc (.cells #[.int .u32 0, .slice none 0 0, .slice none 0 0, .int .u32 0] 26)).alloc (.cells #[.int .i64 0, .int .i64 0] 76)).alloc (.cells #[.int .u32 0, .slice none 0 0, .slice none 0 0, .int .u32 0] 26) = w0 at *
  have HQ := Lib.hid (show RQ w X ⟨0, 0⟩ 0 0 (.slice none 0 0) (.slice none 0 0) [] [] w0 from ⟨by rw [← hX]; exact h3.2.2.2, h3.1, h3.2.1, h3.2.2.1, ⟨[], rfl, insOwn_nil _ _, fun k e => by cases e⟩, outsOwn_nil _ _, hX⟩)
  clear h3 hX
  have b0 : w0.cell? ⟨X + 1, 0, none⟩ = some (.int .i64 0) := cell_at HQ.out.box
  have b1 : w0.cell? ⟨X + 1, 1, none⟩ = some (.int .i64 0) := cell_at HQ.out.box
  go_wp2_with fail
  refine (Q1.out w0).mono ?_
  rintro e wq1 ⟨rfl, hb⟩
  obtain ⟨hs1, c0, c1, g0, g1⟩ := HQ.out.step hb z1
  have HQ := Lib.hid hs1
  clear hb hs1 b0 b1
  unfold zV
  go_upto_region 4 with fail
  generalize (wq1.setCell ⟨X + 1, 0, none⟩ (.int .i64 z1.at_)).setCell ⟨X + 1, 1, none⟩ (.int .i64 z1.err) = w1 at *
  clear c0 c1 g0 g1
  have b0 : w1.cell? ⟨X + 1, 0, none⟩ = some (.int .i64 z1.at_) := cell_at HQ.out.box
  have b1 : w1.cell? ⟨X + 1, 1, none⟩ = some (.int .i64 z1.err) := cell_at HQ.out.box
  have y0 : w1.cell? ⟨X + 2, 0, none⟩ = some (.int .u32 0) := cell_at HQ.out.y
  have gy0 : w1.frozen? ⟨X + 2, 0, none⟩ = false := free_at HQ.out.y
  have HQ := Lib.hid (HQ.out.setVer ver)
  clear Q1
  go_upto_region 5 with fail
  generalize w1.setCell ⟨X + 2, 0, none⟩ (.int .u32 ver) = w2 at *
  clear y0 gy0 b0 b1
  have b0 : w2.cell? ⟨X + 1, 0, none⟩ = some (.int .i64 z1.at_) := cell_at HQ.out.box
  have b1 : w2.cell? ⟨X + 1, 1, none⟩ = some (.int .i64 z1.err) := cell_at HQ.out.box
  go_cut [8] (fun s8 wx => s8 = .bool mk ∧ wx = w2)
  case first =>
    as_aux_lemma =>
      by_cases he : z1.err = 0
      · by_cases hlt : z1.at_ < s.size
        · have hltI : (z1.at_ : Int) < (s.size : Int) := by omega
          have h00 : (0 : Int) ≤ (z1.at_ : Int) := by omega
          have HBA := Lib.hid (byteAt_get hlt)
          obtain ⟨c, hb⟩ : ∃ c, (s[z1.at_]'hlt).toNat = c := ⟨_, rfl⟩
          have hBc : byteAt s.data.toList z1.at_ = c := HBA.out.trans hb
          by_cases hc : c = 0
          · have hm : mk = true := by
              have h1 := mark_ref he (by rw [data_len]; exact hlt) (hBc.trans hc)
              rw [HZ2.out] at h1
              exact congrArg Prod.snd h1
            have hc1 : ((c : Int) == 0) = true := by rw [hc]; rfl
            have HM := Lib.hid hm
            clear hBc hm hc HBA
            rw [he] at b1
            go_wp2_with fail
            go_meet
            exact ⟨by rw [HM.out], rfl⟩
          · have hm : mk = false := by
              have h1 := mark_no s.data.toList z1 (by rw [hBc]; exact hc)
              rw [HZ2.out] at h1
              exact congrArg Prod.snd h1
            have hc1 : ((c : Int) == 0) = false := by rw [beq_eq_false_iff_ne]; omega
            have HM := Lib.hid hm
            clear hBc hm hc HBA
            rw [he] at b1
            go_wp2_with fail
            go_meet
            exact ⟨by rw [HM.out], rfl⟩
        · have hm : mk = false := by
            have h1 := mark_none s.data.toList z1 (by rw [data_len]; omega)
            rw [HZ2.out] at h1
            exact congrArg Prod.snd h1
          have hltI : ¬ (z1.at_ : Int) < (s.size : Int) := by omega
          have HM := Lib.hid hm
          clear hm
          rw [he] at b1
          go_wp2_with fail
          go_meet
          exact ⟨by rw [HM.out], rfl⟩
      · have hm : mk = false := by
          have h1 := mark_stay s.data.toList z1 he
          rw [HZ2.out] at h1
          exact congrArg Prod.snd h1
        have HM := Lib.hid hm
        obtain ⟨er, her⟩ : ∃ e, e = z1.err := ⟨_, rfl⟩
        rw [← her] at b1 he
        have he1 : (er == 0) = false := by simpa using he
        clear hm her
        go_wp2_with fail
        go_meet
        exact ⟨by rw [HM.out], rfl⟩
  case rest =>
    obtain ⟨rfl, rfl⟩ := hcut
    rename World => w2
    have hm1 : mk = false → z2 = z1 := fun h => by
      have h1 : (markZ s.data.toList z1).2 = false := by rw [HZ2.out]; exact h
      have h2 : markZ s.data.toList z1 = (z1, false) := by
        unfold markZ at h1 ⊢
        split
        · rfl
        · rename_i h3
          rw [if_neg h3] at h1
          split at h1 <;> cases h1
      rw [HZ2.out] at h2
      exact congrArg Prod.fst h2
    have hm2 : mk = true → z1.err = 0 ∧ z1.at_ < s.size ∧ z2 = (if (numZ 1 1 4 s.data.toList ⟨z1.at_ + 1, 0⟩).1.err = 0 ∧ (numZ 1 1 4 s.data.toList ⟨z1.at_ + 1, 0⟩).2 = 0 then ⟨(numZ 1 1 4 s.data.toList ⟨z1.at_ + 1, 0⟩).1.at_ - 1, 4⟩ else (numZ 1 1 4 s.data.toList ⟨z1.at_ + 1, 0⟩).1) := fun h => by
      by_cases hn : z1.err ≠ 0 ∨ s.data.toList.length ≤ z1.at_ ∨ byteAt s.data.toList z1.at_ ≠ 0
      · have h1 := HZ2.out
        unfold markZ at h1
        rw [if_pos hn] at h1
        have := congrArg Prod.snd h1
        rw [h] at this
        cases this
      · have e0 : z1.err = 0 := Decidable.by_contra fun h3 => hn (.inl h3)
        have e1 : z1.at_ < s.data.toList.length := by
          rcases Nat.lt_or_ge z1.at_ s.data.toList.length with h3 | h3
          · exact h3
          · exact absurd (.inr (.inl h3)) hn
        have e2 : byteAt s.data.toList z1.at_ = 0 := Decidable.by_contra fun h3 => hn (.inr (.inr h3))
        have h1 := mark_ref e0 e1 e2
        rw [HZ2.out] at h1
        rw [data_len] at e1
        exact ⟨e0, e1, congrArg Prod.fst h1⟩
    have HM := Lib.hid (And.intro hm1 hm2)
    clear hm1 hm2
    go_upto_if 42 with fail
    go_cut [] (fun wx => RQ w X z2 ver 0 (.slice none 0 0) (.slice none 0 0) [] [] wx)
    case first =>
      as_aux_lemma =>
        by_cases hmk : mk = true
        · obtain ⟨e0, e1, e2⟩ := HM.out.2 hmk
          subst hmk
          obtain ⟨p, er⟩ := z1
          dsimp only at e0 e1 e2 b0 b1 hat1
          subst e0
          obtain ⟨zz, v, hzz⟩ : ∃ q1 q2, numZ 1 1 4 s.data.toList ⟨p + 1, 0⟩ = (q1, q2) := ⟨_, _, rfl⟩
          rw [hzz] at e2
          dsimp only at e2
          have qm := fun y => rnumber_any s ⟨p + 1, 0⟩ 1 1 4 y (.inl rfl) HK.out.1 e1 (by decide)
          simp only [hzz, zV] at qm
          have QM := Lib.hid qm
          have HE2 := Lib.hid e2
          have hlt0 : zz.err = 0 → zz.at_ = p + 2 := fun h => by
            have h1 := (numZ_psr 1 1 4 (by decide)).next (l := s.data.toList) (z := ⟨p + 1, 0⟩) rfl (by rw [data_len]; exact e1) (by rw [hzz]; exact h)
            rw [hzz] at h1
            have h2 := congrArg Zst.at_ h1.2.1
            rw [leB_length] at h2
            exact h2
          have HLT := Lib.hid hlt0
          have hpI : (p : Int) + 1 ≤ 9000000000000000000 := by omega
          have hzat := (numZ_psr 1 1 4 (by decide)).le' (s := s) (z := ⟨p + 1, 0⟩) e1
          rw [hzz] at hzat
          dsimp only at hzat
          have hz0I : (0 : Int) ≤ (zz.at_ : Int) := by omega
          have hz1I : (zz.at_ : Int) ≤ 9000000000000000000 := by omega
          clear qm hzz e2 hlt0 hzat
          have gb0 : w2.frozen? ⟨X + 1, 0, none⟩ = false := free_at HQ.out.box
          have HQ := Lib.hid (HQ.out.setAt (p + 1))
          dsimp only at HQ
          go_upto_region 8 with fail
          rw [show ((p + 1 : Nat) : Int) = (p : Int) + 1 from rfl] at HQ
          generalize w2.setCell ⟨X + 1, 0, none⟩ (.int .i64 ((p : Int) + 1)) = w3 at *
          clear b0 b1 gb0
          have b0 : w3.cell? ⟨X + 1, 0, none⟩ = some (.int .i64 ((p : Int) + 1)) := cell_at HQ.out.box
          have b1 : w3.cell? ⟨X + 1, 1, none⟩ = some (.int .i64 0) := cell_at HQ.out.box
          go_wp2_with fail
          refine (QM.out w3).mono ?_
          rintro e wq3 ⟨rfl, hb⟩
          obtain ⟨hs1, c0, c1, g0, g1⟩ := HQ.out.step hb zz
          have HQ := Lib.hid hs1
          clear hb hs1 b0 b1
          unfold zV
          go_upto_region 9 with fail
          generalize (wq3.setCell ⟨X + 1, 0, none⟩ (.int .i64 zz.at_)).setCell ⟨X + 1, 1, none⟩ (.int .i64 zz.err) = w4 at *
          clear c0 c1 g0 g1
          have b0 : w4.cell? ⟨X + 1, 0, none⟩ = some (.int .i64 zz.at_) := cell_at HQ.out.box
          have b1 : w4.cell? ⟨X + 1, 1, none⟩ = some (.int .i64 zz.err) := cell_at HQ.out.box
          by_cases hze : zz.err = 0
          · have hza := HLT.out hze
            by_cases hv : v = 0
            · have HE3 := Lib.hid (HE2.out.trans (if_pos ⟨hze, hv⟩))
              have hvI : (v : Int) = 0 := by omega
              rw [hze] at b1
              have gb0 : w4.frozen? ⟨X + 1, 0, none⟩ = false := free_at HQ.out.box
              have hq1 := HQ.out.setAt (zz.at_ - 1)
              have hq2 := hq1.setErr 4
              have gb1 : (w4.setCell ⟨X + 1, 0, none⟩ (.int .i64 ((zz.at_ - 1 : Nat) : Int))).frozen? ⟨X + 1, 1, none⟩ = false := free_at hq1.box
              have gc1 : (w4.setCell ⟨X + 1, 0, none⟩ (.int .i64 ((zz.at_ - 1 : Nat) : Int))).cell? ⟨X + 1, 1, none⟩ = some (.int .i64 zz.err) := cell_at hq1.box
              have hzs : ((zz.at_ - 1 : Nat) : Int) = (zz.at_ : Int) - 1 := by omega
              rw [hzs] at gb1 gc1 hq2
              rw [hze] at gc1
              dsimp only at hq2
              rw [← HE3.out] at hq2
              have HQ := Lib.hid hq2
              clear hq1 hq2 hzs hza hv hze
              go_wp2_with fail
              go_meet
              exact HQ.out
            · have HE3 := Lib.hid (HE2.out.trans (if_neg (fun h => hv h.2)))
              have hvI : ((v : Int) == 0) = false := by rw [beq_eq_false_iff_ne]; omega
              have hq2 := HQ.out
              rw [← HE3.out] at hq2
              have HQ := Lib.hid hq2
              rw [hze] at b1
              clear hq2 hza hv hze
              go_wp2_with fail
              go_meet
              exact HQ.out
          · have HE3 := Lib.hid (HE2.out.trans (if_neg (fun h => hze h.1)))
            have hq2 := HQ.out
            rw [← HE3.out] at hq2
            have HQ := Lib.hid hq2
            obtain ⟨er, her⟩ : ∃ e, e = zz.err := ⟨_, rfl⟩
            rw [← her] at b1 hze
            have he1 : (er == 0) = false := by simpa using hze
            clear hq2 her
            go_wp2_with fail
            go_meet
            exact HQ.out
        · have hmf : mk = false := by simpa using hmk
          have h2 := HM.out.1 hmf
          have hq2 := HQ.out
          rw [← h2] at hq2
          have HQ := Lib.hid hq2
          clear hq2 h2 hmk
          subst hmf
          go_wp2_with fail
          go_meet
          exact HQ.out
    case rest =>
      rename World => w5
      have HQ := Lib.hid hcut
      clear hcut b0 b1
      have b0 : w5.cell? ⟨X + 1, 0, none⟩ = some (.int .i64 z2.at_) := cell_at HQ.out.box
      have b1 : w5.cell? ⟨X + 1, 1, none⟩ = some (.int .i64 z2.err) := cell_at HQ.out.box
      go_wp2_with fail
      refine (Q4.out w5).mono ?_
      rintro e wq5 ⟨v5, ps, rfl, hown, hb, hxs, hpl⟩
      obtain ⟨a5, c5, rfl, -, -⟩ := ownsRow_shape hown.row
      obtain ⟨-, c0, c1, g0, g1⟩ := HQ.out.step hb z4
      have c2 : wq5.cell? ⟨X + 2, 1, none⟩ = some (.slice none 0 0) := cell_at (HQ.out.below hb).y
      have g2 : wq5.frozen? ⟨X + 2, 1, none⟩ = false := free_at (HQ.out.below hb).y
      have HQ := Lib.hid (HQ.out.callIns hb hown z4)
      have HXS := Lib.hid hxs
      obtain ⟨n, hn⟩ : ∃ n, n = ps.length := ⟨_, rfl⟩
      rw [← hn] at HQ hpl ⊢
      have HN := Lib.hid (show (ps.map (·.1)).length = n by rw [List.length_map]; exact hn.symm)
      obtain ⟨x4, hx4⟩ : ∃ x, x = ps.map (·.1) := ⟨_, rfl⟩
      rw [← hx4] at HQ HXS HN
      clear hb hown hxs b0 b1 Q4 hn hx4
      unfold zV
      go_upto_region 13 with fail
      generalize ((wq5.setCell ⟨X + 1, 0, none⟩ (.int .i64 z4.at_)).setCell ⟨X + 1, 1, none⟩ (.int .i64 z4.err)).setCell ⟨X + 2, 1, none⟩ (.slice a5 n c5) = w6 at *
      clear c0 c1 g0 g1 c2 g2
      have b0 : w6.cell? ⟨X + 1, 0, none⟩ = some (.int .i64 z4.at_) := cell_at HQ.out.box
      have b1 : w6.cell? ⟨X + 1, 1, none⟩ = some (.int .i64 z4.err) := cell_at HQ.out.box
      go_wp2_with fail
      refine (Q6.out w6).mono ?_
      rintro e wq6 ⟨v6, o6, rfl, hown, hb, hxs, hpl6⟩
      obtain ⟨a6, c6, rfl, -, -⟩ := ownsRow_shape hown.row
      obtain ⟨-, c0, c1, g0, g1⟩ := HQ.out.step hb z6
      have c2 : wq6.cell? ⟨X + 2, 2, none⟩ = some (.slice none 0 0) := cell_at (HQ.out.below hb).y
      have g2 : wq6.frozen? ⟨X + 2, 2, none⟩ = false := free_at (HQ.out.below hb).y
      have HQ := Lib.hid (HQ.out.callOuts hb hown z6)
      have HOS := Lib.hid hxs
      obtain ⟨m, hm⟩ : ∃ n, n = o6.length := ⟨_, rfl⟩
      rw [← hm] at HQ hpl6 ⊢
      clear hb hown hxs b0 b1 Q6 hm
      unfold zV
      go_upto_region 14 with fail
      generalize ((wq6.setCell ⟨X + 1, 0, none⟩ (.int .i64 z6.at_)).setCell ⟨X + 1, 1, none⟩ (.int .i64 z6.err)).setCell ⟨X + 2, 2, none⟩ (.slice a6 m c6) = w7 at *
      clear c0 c1 g0 g1 c2 g2
      have b0 : w7.cell? ⟨X + 1, 0, none⟩ = some (.int .i64 z6.at_) := cell_at HQ.out.box
      have b1 : w7.cell? ⟨X + 1, 1, none⟩ = some (.int .i64 z6.err) := cell_at HQ.out.box
      have h46 : z6.err = 0 → z4.err = 0 := fun h => Decidable.by_contra fun h4 => by
        have h5 := outsZ_psr.stay s.data.toList z4 h4
        rw [HZ6.out] at h5
        have h6 : z6 = z4 := h5
        exact h4 (h6 ▸ h)
      have hxz : ∀ x ∈ xs, x.wit = [] := fun x hx => by
        have h1 := HZ4.out
        unfold insZ cntRep mapZ seqZ at h1
        have h2 := congrArg Prod.snd h1
        dsimp only at h2
        rw [← h2] at hx
        exact repZ_all (P := fun x : PIn => x.wit = []) (fun z => (inZ_ok s.data.toList z).2) _ _ x hx
      have HXZ := Lib.hid hxz
      have H46 := Lib.hid h46
      have hI0 : WI s.data.toList mk z6 x4 xs 0 z6 x4 false := by
        refine ⟨fun _ => ⟨rfl, rfl, rfl, rfl⟩, fun _ => ⟨rfl, fun h => ⟨?_, rfl⟩⟩⟩
        show x4 = wdone 0 xs []
        rw [wdone_zero]
        exact HXS.out (h46 h)
      have HI := Lib.hid hI0
      clear h46 hxz hI0
      go_wp2_with fail
      go_loopg [10, 11] n (fun g vb vi wr => ∃ (k : Nat) (ab : Bool) (xk : List PIn) (zk : Zst), g = n - k ∧ k ≤ n ∧ vi = .int .i64 k ∧ vb = .bool ab ∧ RQ w X zk ver 0 (.slice a5 n c5) (.slice a6 m c6) xk o6 wr ∧ xk.length = n ∧ WI s.data.toList mk z6 x4 xs k zk xk ab)
      case atStart => exact ⟨0, false, x4, z6, rfl, by omega, rfl, rfl, HQ.out, HN.out, HI.out⟩
      case round =>
        clear HQ b0 b1 HI
        rename World => wr
        obtain ⟨k, ab, xk, zk, hgk, hk, rfl, rfl, hq, hxl, hwi⟩ := hrel
        have HGK := Lib.hid hgk
        have HQ := Lib.hid hq
        have HWI := Lib.hid hwi
        have HXL := Lib.hid hxl
        have b0 : wr.cell? ⟨X + 1, 0, none⟩ = some (.int .i64 zk.at_) := cell_at hq.box
        have b1 : wr.cell? ⟨X + 1, 1, none⟩ = some (.int .i64 zk.err) := cell_at hq.box
        have y1 : wr.cell? ⟨X + 2, 1, none⟩ = some (.slice a5 n c5) := cell_at hq.y
        clear hgk hq hwi hxl
        by_cases hgo : mk = true ∧ k < n ∧ zk.err = 0
        · obtain ⟨hmk, hkn, hze⟩ := hgo
          subst hmk
          obtain ⟨e1, e2⟩ := HWI.out.2 rfl
          obtain ⟨hxk, hab⟩ := e2 hze
          have h6 : z6.err = 0 := Decidable.by_contra fun h6 => by
            have := (witZ_psr.rep k).stay s.data.toList z6 h6
            rw [e1, this] at hze
            exact h6 hze
          have h4x : x4 = xs := HXS.out (H46.out h6)
          have hxn : xs.length = n := by rw [← h4x]; exact HN.out
          obtain ⟨x, hx⟩ : ∃ x, xs[k]? = some x := ⟨_, List.getElem?_eq_getElem (by omega)⟩
          have hxw : x.wit = [] := HXZ.out x (List.mem_of_getElem? hx)
          have hwl := repZ_len witZ s.data.toList z6 k
          obtain ⟨wk, hwk⟩ : ∃ q, q = (repZ witZ k s.data.toList z6).2 := ⟨_, rfl⟩
          rw [← hwk] at hxk hab hwl
          have kk := (witZ_psr.rep k).le' (s := s) HK.out.2.2.1
          rw [← e1] at kk
          obtain ⟨zc, n2, hzc⟩ : ∃ q1 q2, cntZ 0 4 6 s.data.toList zk = (q1, q2) := ⟨_, _, rfl⟩
          have hwit : witZ s.data.toList zk = repZ itemZ n2 s.data.toList zc := by unfold witZ cntRep mapZ seqZ; rw [hzc]
          have kc := (cntZ_psr 0 4 6 (by decide) (by decide)).le' (s := s) kk
          rw [hzc] at kc
          have hn2 := cntZ_le 0 4 6 s.data.toList zk
          rw [hzc] at hn2
          dsimp only at kc hn2
          have qc := fun y => rcount_any s zk 0 4 6 y HK.out.1 kk (by decide) (by decide)
          simp only [hzc, zV] at qc
          rw [hze] at qc b1
          have QC := Lib.hid qc
          have hat := wdone_at hx hwl
          rw [← hxk] at hat
          obtain ⟨b9, c9, e9, hb9⟩ := HQ.out.at hat
          rw [HXL.out] at e9
          obtain ⟨rfl, rfl⟩ : a5 = some ⟨b9, 0, none⟩ ∧ c5 = c9 := by simpa using e9
          have hstp : repZ witZ (k + 1) s.data.toList z6 = ((witZ s.data.toList zk).1, wk ++ [(witZ s.data.toList zk).2]) := by
            show ((witZ s.data.toList (repZ witZ k s.data.toList z6).1).1, (repZ witZ k s.data.toList z6).2 ++ [(witZ s.data.toList (repZ witZ k s.data.toList z6).1).2]) = _
            rw [← e1, ← hwk]
          have HIN := Lib.hid (And.intro hx (And.intro hxw (And.intro hxk (And.intro hab (And.intro hwl (And.intro hstp (And.intro hwit hxn)))))))
          have HKC := Lib.hid kc
          have hkI : (0 : Int) ≤ (k : Int) := by omega
          have hknI : (k : Int) < (n : Int) := by omega
          clear e1 e2 hze hxk hab h6 h4x hxn hx hxw hwl hwk kk hzc hwit kc qc hat e9 hstp HWI
          go_wp2_with fail
          refine (QC.out wr).mono ?_
          rintro e wq8 ⟨rfl, hb⟩
          obtain ⟨hs1, c0, c1, g0, g1⟩ := HQ.out.step hb zc
          have HQ := Lib.hid hs1
          clear hb hs1 b0 b1
          unfold zV
          go_upto_region 21 with fail
          generalize (wq8.setCell ⟨X + 1, 0, none⟩ (.int .i64 zc.at_)).setCell ⟨X + 1, 1, none⟩ (.int .i64 zc.err) = w8 at *
          clear c0 c1 g0 g1
          have b0 : w8.cell? ⟨X + 1, 0, none⟩ = some (.int .i64 zc.at_) := cell_at HQ.out.box
          have b1 : w8.cell? ⟨X + 1, 1, none⟩ = some (.int .i64 zc.err) := cell_at HQ.out.box
          have y1 : w8.cell? ⟨X + 2, 1, none⟩ = some (.slice (some ⟨b9, 0, none⟩) n c5) := cell_at HQ.out.y
          go_cut [10] (fun s9 wx => s9 = .bool (ab || decide (0 < n2)) ∧ wx = w8)
          case first =>
            cases ab
            · by_cases hn0 : 0 < n2
              · have hnI : (0 : Int) < (n2 : Int) := by omega
                go_wp2_with fail
                go_meet
                exact ⟨by simp [hn0], rfl⟩
              · have hnI : ¬ (0 : Int) < (n2 : Int) := by omega
                go_wp2_with fail
                go_meet
                exact ⟨by simp [hn0], rfl⟩
            · go_wp2_with fail
              go_meet
              exact ⟨by simp, rfl⟩
          case rest =>
            obtain ⟨rfl, rfl⟩ := hcut
            rename World => w8
            have hq0 : RQ w X zc ver 0 (.slice (some ⟨b9, 0, none⟩) n c5) (.slice a6 m c6) (xk.set k { x with wit := (repZ itemZ 0 s.data.toList zc).2 }) o6 w8 := by
              have h1 : xk.set k { x with wit := (repZ itemZ 0 s.data.toList zc).2 } = xk := by
                have h2 : ({ x with wit := (repZ itemZ 0 s.data.toList zc).2 } : PIn) = x := by
                  have := HIN.out.2.1
                  cases x
                  dsimp only at this
                  subst this
                  rfl
                rw [h2]
                have h3 := wdone_at HIN.out.1 HIN.out.2.2.2.2.1
                rw [← HIN.out.2.2.1] at h3
                obtain ⟨h4, h5⟩ := List.getElem?_eq_some_iff.1 h3
                rw [← h5]
                exact List.set_getElem_self h4
              rw [h1]
              exact HQ.out
            have HQ0 := Lib.hid hq0
            clear hq0 HQ b0 b1 y1 QC
            go_wp2_with fail
            go_loopg [13] n2 (fun g vj wr => ∃ j : Nat, g = n2 - j ∧ j ≤ n2 ∧ vj = .int .i64 j ∧ RQ w X (repZ itemZ j s.data.toList zc).1 ver 0 (.slice (some ⟨b9, 0, none⟩) n c5) (.slice a6 m c6) (xk.set k { x with wit := (repZ itemZ j s.data.toList zc).2 }) o6 wr)
            case atStart => exact ⟨0, rfl, by omega, rfl, HQ0.out⟩
            case round =>
              clear HQ0
              rename World => wr
              obtain ⟨j, hgj, hj, rfl, hq⟩ := hrel
              have HGJ := Lib.hid hgj
              have kj := ((cntText_psr 80 20 (by decide) (by decide)).rep j).le' (s := s) HKC.out
              have kj : (repZ itemZ j s.data.toList zc).1.at_ ≤ s.size := kj
              have hwl := repZ_len itemZ s.data.toList zc j
              obtain ⟨zj, wj, hzj⟩ : ∃ q1 q2, repZ itemZ j s.data.toList zc = (q1, q2) := ⟨_, _, rfl⟩
              rw [hzj] at hq kj hwl
              dsimp only at hq kj hwl
              have HQ := Lib.hid hq
              have HZJ := Lib.hid hzj
              have HWL := Lib.hid hwl
              have b0 : wr.cell? ⟨X + 1, 0, none⟩ = some (.int .i64 zj.at_) := cell_at hq.box
              have b1 : wr.cell? ⟨X + 1, 1, none⟩ = some (.int .i64 zj.err) := cell_at hq.box
              clear hgj hq hzj hwl
              by_cases hlt : j < n2 ∧ zj.err = 0
              · obtain ⟨hlt, hze⟩ := hlt
                as_aux_lemma =>
                  obtain ⟨pj, ej⟩ := zj
                  dsimp only at hze b0 b1 kj
                  subst hze
                  have kj : (⟨pj, 0⟩ : Zst).at_ ≤ s.size := kj
                  obtain ⟨zd, n3, hzd⟩ : ∃ q1 q2, cntZ 0 80 20 s.data.toList (⟨pj, 0⟩ : Zst) = (q1, q2) := ⟨_, _, rfl⟩
                  obtain ⟨ze, p3, hze⟩ : ∃ q1 q2, textZ n3 s.data.toList zd = (q1, q2) := ⟨_, _, rfl⟩
                  have hst : repZ itemZ (j + 1) s.data.toList zc = (ze, wj ++ [p3]) := by
                    show ((itemZ s.data.toList (repZ itemZ j s.data.toList zc).1).1, _ ++ [(itemZ s.data.toList (repZ itemZ j s.data.toList zc).1).2]) = _
                    rw [HZJ.out]
                    unfold itemZ cntText mapZ seqZ
                    dsimp only
                    rw [hzd]
                    dsimp only
                    rw [hze]
                  have kd := (cntZ_psr 0 80 20 (by decide) (by decide)).le' (s := s) kj
                  rw [hzd] at kd
                  have hn3 := cntZ_le 0 80 20 s.data.toList (⟨pj, 0⟩ : Zst)
                  rw [hzd] at hn3
                  dsimp only at kd hn3
                  have hp3 := textZ_le n3 s.data.toList zd
                  rw [hze] at hp3
                  dsimp only at hp3
                  have qd := fun y => rcount_any s (⟨pj, 0⟩ : Zst) 0 80 20 y HK.out.1 kj (by decide) (by decide)
                  have qe := fun y => rtext_any s zd n3 y HK.out.1 kd (by omega) HS.out
                  simp only [hzd, zV] at qd
                  simp only [hze, zV] at qe
                  have QD := Lib.hid qd
                  have QE := Lib.hid qe
                  have HST := Lib.hid hst
                  have hps : p3.size ≤ 9223372036854775807 := by omega
                  have hxk1 : (xk.set k { x with wit := wj })[k]? = some { x with wit := wj } := by
                    rw [List.getElem?_set_self (by have := HXL.out; omega)]
                  have HX1 := Lib.hid hxk1
                  have hj4 : j ≤ 4 := by omega
                  clear hzd hze hst kd hn3 hp3 qd qe kj hxk1
                  go_wp2_with fail
                  refine (QD.out wr).mono ?_
                  rintro e wq9 ⟨rfl, hb⟩
                  obtain ⟨hs1, c0, c1, g0, g1⟩ := HQ.out.step hb zd
                  have HQ := Lib.hid hs1
                  clear hb hs1 b0 b1
                  unfold zV
                  go_upto_region 28 with fail
                  generalize (wq9.setCell ⟨X + 1, 0, none⟩ (.int .i64 zd.at_)).setCell ⟨X + 1, 1, none⟩ (.int .i64 zd.err) = w10 at *
                  clear c0 c1 g0 g1
                  have b0 : w10.cell? ⟨X + 1, 0, none⟩ = some (.int .i64 zd.at_) := cell_at HQ.out.box
                  have b1 : w10.cell? ⟨X + 1, 1, none⟩ = some (.int .i64 zd.err) := cell_at HQ.out.box
                  go_wp2_with fail
                  refine (QE.out w10).mono ?_
                  rintro e wq10 ⟨rfl, hb⟩
                  obtain ⟨hs1, c0, c1, g0, g1⟩ := HQ.out.step hb ze
                  have HQ := Lib.hid hs1
                  clear hb hs1 b0 b1
                  unfold zV
                  go_upto_region 29 with fail
                  generalize (wq10.setCell ⟨X + 1, 0, none⟩ (.int .i64 ze.at_)).setCell ⟨X + 1, 1, none⟩ (.int .i64 ze.err) = w11 at *
                  clear c0 c1 g0 g1
                  have b0 : w11.cell? ⟨X + 1, 0, none⟩ = some (.int .i64 ze.at_) := cell_at HQ.out.box
                  have b1 : w11.cell? ⟨X + 1, 1, none⟩ = some (.int .i64 ze.err) := cell_at HQ.out.box
                  have hlen : (xk.set k { x with wit := wj }).length = n := by rw [List.length_set]; exact HXL.out
                  have hq1 := HQ.out
                  rw [← hlen] at hq1
                  have happ := (hq1.below (show Below w11.heap.size w11 w11.drew from ⟨rfl, rfl, rfl, Nat.le_refl _, fun _ _ => rfl⟩)).app HX1.out p3 (by rw [maxLen_eq]; exact hps) (by dsimp only; have := HWL.out; omega)
                  rw [hlen] at happ
                  dsimp only at happ
                  rw [HWL.out] at happ
                  obtain ⟨wa, wc, d3, g3, a2, c2, wd, hrun, hyb, hbb, hfin⟩ := happ
                  rw [List.set_set] at hfin
                  have d3 : w11.cell? ⟨b9, k * 4 + 3, none⟩ = some (.slice wa j wc) := d3
                  have g3 : w11.frozen? ⟨b9, k * 4 + 3, none⟩ = false := g3
                  have hyb : wd.heap[X + 2]? = w11.heap[X + 2]? := hyb
                  have hbb : wd.heap[b9]? = w11.heap[b9]? := hbb
                  have y1 : w11.cell? ⟨X + 2, 1, none⟩ = some (.slice (some ⟨b9, 0, none⟩) n c5) := cell_at HQ.out.y
                  have y1a : ∀ o, (w11.alloc o).cell? ⟨X + 2, 1, none⟩ = some (.slice (some ⟨b9, 0, none⟩) n c5) := fun o => cell_over y1 o
                  have d3a : ∀ o, (w11.alloc o).cell? ⟨b9, k * 4 + 3, none⟩ = some (.slice wa j wc) := fun o => cell_over d3 o
                  have y1d : wd.cell? ⟨X + 2, 1, none⟩ = some (.slice (some ⟨b9, 0, none⟩) n c5) := cell_at (hyb.trans HQ.out.y)
                  have d3d : wd.cell? ⟨b9, k * 4 + 3, none⟩ = some (.slice wa j wc) := (World.cell?_of_block (a := ⟨b9, k * 4 + 3, none⟩) hbb).trans d3
                  have g3d : wd.frozen? ⟨b9, k * 4 + 3, none⟩ = false := (World.frozen?_of_block (a := ⟨b9, k * 4 + 3, none⟩) hbb).trans g3
                  have HR := Lib.hid (show (Builtin.append_ #[45, 45] 45 #[.slice wa j wc, .slice (some ⟨w11.heap.size, 0, none⟩) 1 1]).run Try.prog ((w11.alloc (.cells #[.string p3] 9)).drew) = .ok (.slice a2 (j + 1) c2) wd from hrun)
                  have HFI := Lib.hid hfin
                  clear hlen hq1 hrun hyb hbb hfin b0 b1 QD QE HQ
                  go_region_law (refine step_append_run rfl (.tmp 138) (.tmp 140) 45 45 rfl rfl rfl HR.out ?_)
                  all_goals
                    go_wp2_with fail
                    go_roundg (n2 - (j + 1))
                    case measure => have := HGJ.out; omega
                    case rel => exact ⟨j + 1, rfl, by omega, by go_num, by rw [HST.out]; exact HFI.out⟩
              · clear HKC
                as_aux_lemma =>
                  have hzf : zj = (repZ itemZ n2 s.data.toList zc).1 ∧ (zj.err = 0 → j = n2) := by
                    by_cases hze : zj.err = 0
                    · obtain rfl : j = n2 := by
                        rcases Nat.lt_or_ge j n2 with h1 | h1
                        · exact absurd ⟨h1, hze⟩ hlt
                        · omega
                      exact ⟨by rw [HZJ.out], fun _ => rfl⟩
                    · have h1 := repZ_stay (cntText_psr 80 20 (by decide) (by decide)) s.data.toList zc j (by show (repZ itemZ j s.data.toList zc).1.err ≠ 0; rw [HZJ.out]; exact hze) (n2 - j)
                      rw [show j + (n2 - j) = n2 by omega] at h1
                      have h2 : (repZ itemZ n2 s.data.toList zc).1 = (repZ itemZ j s.data.toList zc).1 := h1
                      rw [HZJ.out] at h2
                      exact ⟨h2.symm, fun h => absurd h hze⟩
                  have hwi : WI s.data.toList true z6 x4 xs (k + 1) zj (xk.set k { x with wit := wj }) (ab || decide (0 < n2)) := wi_next HIN.out.1 HIN.out.2.2.1 HIN.out.2.2.2.1 HIN.out.2.2.2.2.1 HIN.out.2.2.2.2.2.1 HIN.out.2.2.2.2.2.2.1 HZJ.out HWL.out hzf.1 hzf.2
                  have HWI := Lib.hid hwi
                  have HLN := Lib.hid (show (xk.set k { x with wit := wj }).length = n by rw [List.length_set]; exact HXL.out)
                  clear hwi hzf kj
                  by_cases hj2 : j < n2
                  · have hze : zj.err ≠ 0 := fun h => hlt ⟨hj2, h⟩
                    have hz1 : (zj.err == 0) = false := by simpa using hze
                    clear hlt
                    go_wp2_with fail
                    go_roundg (n - (k + 1))
                    case measure => have := HGK.out; omega
                    case rel => exact ⟨k + 1, _, _, zj, rfl, by omega, by go_num, rfl, HQ.out, HLN.out, HWI.out⟩
                  · clear hlt
                    go_wp2_with fail
                    go_roundg (n - (k + 1))
                    case measure => have := HGK.out; omega
                    case rel => exact ⟨k + 1, _, _, zj, rfl, by omega, by go_num, rfl, HQ.out, HLN.out, HWI.out⟩
        · clear HXZ
          go_upto_region 17 with fail
          go_cut [93] (fun s9 wx => s9 = .bool false ∧ wx = wr)
          case first =>
            as_aux_lemma =>
              cases mk
              · go_wp2_with fail
                go_meet
                exact ⟨rfl, rfl⟩
              · by_cases hkn : k < n
                · have hze : zk.err ≠ 0 := fun h => hgo ⟨rfl, hkn, h⟩
                  have hz1 : (zk.err == 0) = false := by simpa using hze
                  clear hgo
                  go_wp2_with fail
                  go_meet
                  exact ⟨rfl, rfl⟩
                · clear hgo
                  go_wp2_with fail
                  go_meet
                  exact ⟨rfl, rfl⟩
          case rest =>
            obtain ⟨rfl, rfl⟩ := hcut
            rename World => wr
            obtain ⟨rb, hrb⟩ : ∃ rb : Bool, rb = (decide (zk.err = 0) && (mk && !ab)) := ⟨_, rfl⟩
            have HRB := Lib.hid hrb
            have HGO := Lib.hid hgo
            clear hgo y1
            go_upto_region 30 with fail
            go_cut [153] (fun s9 wx => s9 = .bool rb ∧ wx = wr)
            case first =>
              as_aux_lemma =>
                by_cases hze : zk.err = 0
                · rw [hze] at b1
                  have hb2 : rb = (mk && !ab) := by rw [hrb, hze]; simp
                  clear hrb hze
                  subst hb2
                  cases mk
                  · go_wp2_with fail
                    go_meet
                    exact ⟨rfl, rfl⟩
                  · go_wp2_with fail
                    go_meet
                    exact ⟨rfl, rfl⟩
                · have hb2 : rb = false := by rw [hrb]; simp [hze]
                  have hz1 : (zk.err == 0) = false := by simpa using hze
                  clear hrb hze
                  subst hb2
                  go_wp2_with fail
                  go_meet
                  exact ⟨rfl, rfl⟩
            case rest =>
              obtain ⟨rfl, rfl⟩ := hcut
              rename World => wr
              clear hrb
              cases rb
              · have hend := wits_more HZ7.out HRB.out (fun h => HXS.out (H46.out h)) HXL.out HWI.out HN.out hk HGO.out
                obtain ⟨h7, h7b⟩ := hend
                subst h7
                have HXK := Lib.hid h7b
                clear h7b
                go_wp2_with fail
                refine (Q8.out wr).mono ?_
                rintro e wq8 ⟨rfl, hb⟩
                obtain ⟨hs1, c0, c1, g0, g1⟩ := HQ.out.step hb z8
                have HQ := Lib.hid hs1
                clear hb hs1 b0 b1
                unfold zV
                go_upto_region 33 with fail
                generalize (wq8.setCell ⟨X + 1, 0, none⟩ (.int .i64 z8.at_)).setCell ⟨X + 1, 1, none⟩ (.int .i64 z8.err) = w8 at *
                clear c0 c1 g0 g1
                have b0 : w8.cell? ⟨X + 1, 0, none⟩ = some (.int .i64 z8.at_) := cell_at HQ.out.box
                have b1 : w8.cell? ⟨X + 1, 1, none⟩ = some (.int .i64 z8.err) := cell_at HQ.out.box
                have y3 : w8.cell? ⟨X + 2, 3, none⟩ = some (.int .u32 0) := cell_at HQ.out.y
                have gy3 : w8.frozen? ⟨X + 2, 3, none⟩ = false := free_at HQ.out.y
                have HQ := Lib.hid (HQ.out.setLock lock)
                clear Q8
                go_upto_region 34 with fail
                generalize w8.setCell ⟨X + 2, 3, none⟩ (.int .u32 lock) = w9 at *
                clear y3 gy3 b0 b1
                have b0 : w9.cell? ⟨X + 1, 0, none⟩ = some (.int .i64 z8.at_) := cell_at HQ.out.box
                have b1 : w9.cell? ⟨X + 1, 1, none⟩ = some (.int .i64 z8.err) := cell_at HQ.out.box
                obtain ⟨bb, hbb⟩ : ∃ b : Bool, b = (decide (z8.err = 0) && decide (z8.at_ < s.size)) := ⟨_, rfl⟩
                go_cut [174] (fun s9 wx => s9 = .bool bb ∧ wx = w9)
                case first =>
                  as_aux_lemma =>
                    by_cases hze : z8.err = 0
                    · by_cases hlt : z8.at_ < s.size
                      · have hltI : (z8.at_ : Int) < (s.size : Int) := by omega
                        have hb2 : bb = true := by rw [hbb, hze]; simp [hlt]
                        rw [hze] at b1
                        clear hbb hze
                        subst hb2
                        go_wp2_with fail
                        go_meet
                        exact ⟨rfl, rfl⟩
                      · have hltI : ¬ (z8.at_ : Int) < (s.size : Int) := by omega
                        have hb2 : bb = false := by rw [hbb]; simp [hlt]
                        rw [hze] at b1
                        clear hbb hze
                        subst hb2
                        go_wp2_with fail
                        go_meet
                        exact ⟨rfl, rfl⟩
                    · have hb2 : bb = false := by rw [hbb]; simp [hze]
                      have hz1 : (z8.err == 0) = false := by simpa using hze
                      clear hbb hze
                      subst hb2
                      go_wp2_with fail
                      go_meet
                      exact ⟨rfl, rfl⟩
                case rest =>
                  obtain ⟨rfl, rfl⟩ := hcut
                  rename World => w9
                  have hez : z = if bb = true then ⟨z8.at_, 4⟩ else z8 := by
                    rw [HZ.out, hbb]
                    unfold endZ
                    rw [data_len]
                    by_cases h1 : z8.err = 0
                    · by_cases h2 : z8.at_ < s.size
                      · rw [if_pos ⟨h2, h1⟩, if_pos (by simp [h1, h2])]
                      · rw [if_neg (fun h => h2 h.1), if_neg (by simp [h2])]
                    · rw [if_neg (fun h => h1 h.2), if_neg (by simp [h1])]
                  have HEZ := Lib.hid hez
                  have HBB0 := Lib.hid hbb
                  clear hez hbb
                  go_upto_if 174 with fail
                  go_cut [] (fun wx => RQ w X z ver lock (.slice a5 n c5) (.slice a6 m c6) xk o6 wx)
                  case first =>
                    as_aux_lemma =>
                      cases bb
                      · have h9 := HQ.out
                        have e9 : z = z8 := HEZ.out.trans (if_neg (by simp))
                        rw [← e9] at h9
                        have HQ := Lib.hid h9
                        clear h9 e9
                        go_wp2_with fail
                        go_meet
                        exact HQ.out
                      · have gb1 : w9.frozen? ⟨X + 1, 1, none⟩ = false := free_at HQ.out.box
                        have h9 := HQ.out.setErr 4
                        have e9 : z = ⟨z8.at_, 4⟩ := HEZ.out.trans (if_pos rfl)
                        rw [← e9] at h9
                        have HQ := Lib.hid h9
                        clear h9 e9
                        go_wp2_with fail
                        go_meet
                        exact HQ.out
                  case rest =>
                    rename World => wa
                    have HQ := Lib.hid hcut
                    clear hcut b0 b1
                    have b0 : wa.cell? ⟨X + 1, 0, none⟩ = some (.int .i64 z.at_) := cell_at HQ.out.box
                    have b1 : wa.cell? ⟨X + 1, 1, none⟩ = some (.int .i64 z.err) := cell_at HQ.out.box
                    by_cases hze : z.err = 0
                    · have hz8 : z8.err = 0 ∧ z = z8 := by
                        have h1 := HZ.out
                        unfold endZ at h1
                        split at h1
                        · rw [h1] at hze; exact absurd hze four_ne
                        · exact ⟨h1 ▸ hze, h1⟩
                      have hz7 : z7.err = 0 := Decidable.by_contra fun h7 => by
                        have h8 := (numZ_psr 4 4294967295 3 (by decide)).stay s.data.toList z7 h7
                        rw [HZ8.out] at h8
                        have h9 : z8 = z7 := h8
                        exact h7 (h9 ▸ hz8.1)
                      obtain ⟨h6, hxk⟩ := HXK.out hz7
                      have hos := HOS.out h6
                      have htt : t = ⟨ver, xk, o6, lock⟩ := by rw [HT.out, hxk, hos]
                      have hde := HD.out.trans (if_pos hze)
                      have hown := HQ.out.tx (by have := HV.out.1; omega) (by have := HV.out.2; omega)
                      rw [← htt] at hown
                      have HCK := Lib.hid (rcheck_any _ t wa hown.tx HOL.out)
                      have HTT := Lib.hid htt
                      rw [hze] at b1
                      have y0 : wa.cell? ⟨X + 2, 0, none⟩ = some (.int .u32 ver) := cell_at HQ.out.y
                      have y1 : wa.cell? ⟨X + 2, 1, none⟩ = some (.slice a5 n c5) := cell_at HQ.out.y
                      have y2 : wa.cell? ⟨X + 2, 2, none⟩ = some (.slice a6 m c6) := cell_at HQ.out.y
                      have y3 : wa.cell? ⟨X + 2, 3, none⟩ = some (.int .u32 lock) := cell_at HQ.out.y
                      clear hz8 hz7 h6 hxk hos htt hown hze
                      by_cases hc : checkOf t = 0
                      · have HDE := Lib.hid (hde.trans (if_pos hc))
                        rw [hc] at HCK
                        clear hc hde
                        go_wp2_with fail
                        refine HCK.out.mono ?_
                        rintro e wb ⟨rfl, hb⟩
                        have HQ := Lib.hid (HQ.out.below hb)
                        have c1 : wb.cell? ⟨X + 1, 1, none⟩ = some (.int .i64 z.err) := cell_at HQ.out.box
                        have gb1 : wb.frozen? ⟨X + 1, 1, none⟩ = false := free_at HQ.out.box
                        have HQ := Lib.hid (HQ.out.setErr 0)
                        clear hb b0 b1 y0 y1 y2 y3
                        go_upto_region 38 with fail
                        generalize wb.setCell ⟨X + 1, 1, none⟩ (.int .i64 0) = wc at *
                        clear c1 gb1
                        have b1 : wc.cell? ⟨X + 1, 1, none⟩ = some (.int .i64 0) := cell_at HQ.out.box
                        have y0 : wc.cell? ⟨X + 2, 0, none⟩ = some (.int .u32 ver) := cell_at HQ.out.y
                        have y1 : wc.cell? ⟨X + 2, 1, none⟩ = some (.slice a5 n c5) := cell_at HQ.out.y
                        have y2 : wc.cell? ⟨X + 2, 2, none⟩ = some (.slice a6 m c6) := cell_at HQ.out.y
                        have y3 : wc.cell? ⟨X + 2, 3, none⟩ = some (.int .u32 lock) := cell_at HQ.out.y
                        have x0 : wc.cell? ⟨X, 0, none⟩ = some (.int .u32 0) := cell_at HQ.out.x
                        have x1 : wc.cell? ⟨X, 1, none⟩ = some (.slice none 0 0) := cell_at HQ.out.x
                        have x2 : wc.cell? ⟨X, 2, none⟩ = some (.slice none 0 0) := cell_at HQ.out.x
                        have x3 : wc.cell? ⟨X, 3, none⟩ = some (.int .u32 0) := cell_at HQ.out.x
                        have f0 : wc.frozen? ⟨X, 0, none⟩ = false := free_at HQ.out.x
                        have f1 : wc.frozen? ⟨X, 1, none⟩ = false := free_at HQ.out.x
                        have f2 : wc.frozen? ⟨X, 2, none⟩ = false := free_at HQ.out.x
                        have f3 : wc.frozen? ⟨X, 3, none⟩ = false := free_at HQ.out.x
                        have hown := HQ.out.tx (by have := HV.out.1; omega) (by have := HV.out.2; omega)
                        rw [← HTT.out] at hown
                        obtain ⟨-, c5⟩ := four_cells' HQ.out.x (.int .u32 ver) (.slice a5 n c5) (.slice a6 m c6) (.int .u32 lock)
                        have hfx := c5 [X] (by simp)
                        have HBB := Lib.hid (HQ.out.bel.trans (hfx.below HQ.out.bel.size (by have := HQ.out.is; simp; omega)))
                        have HOO := Lib.hid ((hown.kept' (fun k hk hkl => hfx.block k hkl (by simp; omega))).base (base' := w.heap.size) (by have := HQ.out.is; omega))
                        clear c5 hfx hown
                        go_wp2_with fail
                        refine bodyPost_ret (v := .tuple #[.agg #[.int .u32 ver, .slice a5 n c5, .slice a6 m c6, .int .u32 lock], .int .i64 s.size, .int .i64 0]) (by simp [results, Try.results28, go_sem, x0, x1, x2, x3]) rfl ⟨_, by rw [HDE.out], by rw [HDE.out]; exact HOO.out, HBB.out⟩
                      · have HDE := Lib.hid (hde.trans (if_neg hc))
                        obtain ⟨ck, hck⟩ : ∃ e, e = checkOf t := ⟨_, rfl⟩
                        rw [← hck] at HDE HCK hc
                        have hne1 : (ck == 0) = false := by simpa using hc
                        have hne2 : (ck != 0) = true := by simpa using hc
                        clear hck hde
                        go_wp2_with fail
                        refine HCK.out.mono ?_
                        rintro e wb ⟨rfl, hb⟩
                        have HQ := Lib.hid (HQ.out.below hb)
                        have c1 : wb.cell? ⟨X + 1, 1, none⟩ = some (.int .i64 z.err) := cell_at HQ.out.box
                        have gb1 : wb.frozen? ⟨X + 1, 1, none⟩ = false := free_at HQ.out.box
                        have HQ := Lib.hid (HQ.out.setErr ck)
                        clear hb b0 b1 y0 y1 y2 y3
                        go_upto_region 38 with fail
                        generalize wb.setCell ⟨X + 1, 1, none⟩ (.int .i64 ck) = wc at *
                        clear c1 gb1
                        have b0 : wc.cell? ⟨X + 1, 0, none⟩ = some (.int .i64 z.at_) := cell_at HQ.out.box
                        have b1 : wc.cell? ⟨X + 1, 1, none⟩ = some (.int .i64 ck) := cell_at HQ.out.box
                        have x0 : wc.cell? ⟨X, 0, none⟩ = some (.int .u32 0) := cell_at HQ.out.x
                        have x1 : wc.cell? ⟨X, 1, none⟩ = some (.slice none 0 0) := cell_at HQ.out.x
                        have x2 : wc.cell? ⟨X, 2, none⟩ = some (.slice none 0 0) := cell_at HQ.out.x
                        have x3 : wc.cell? ⟨X, 3, none⟩ = some (.int .u32 0) := cell_at HQ.out.x
                        have f0 : wc.frozen? ⟨X, 0, none⟩ = false := free_at HQ.out.x
                        have f1 : wc.frozen? ⟨X, 1, none⟩ = false := free_at HQ.out.x
                        have f2 : wc.frozen? ⟨X, 2, none⟩ = false := free_at HQ.out.x
                        have f3 : wc.frozen? ⟨X, 3, none⟩ = false := free_at HQ.out.x
                        obtain ⟨-, c5⟩ := four_cells' HQ.out.x (.int .u32 ((0 : Nat) : Int)) (.slice none 0 0) (.slice none 0 0) (.int .u32 ((0 : Nat) : Int))
                        have hfx := c5 [X] (by simp)
                        have HBB := Lib.hid (HQ.out.bel.trans (hfx.below HQ.out.bel.size (by have := HQ.out.is; simp; omega)))
                        clear c5 hfx
                        go_wp2_with fail
                        go_region
                        have HBB := Lib.hid (HBB.out.drew)
                        go_wp2_with fail
                        refine bodyPost_ret (v := .tuple #[.agg #[.int .u32 ((0 : Nat) : Int), .slice none 0 0, .slice none 0 0, .int .u32 ((0 : Nat) : Int)], .int .i64 z.at_, .int .i64 ck]) (by simp [results, Try.results28, go_sem, x0, x1, x2, x3]) rfl ⟨_, by rw [HDE.out], by rw [HDE.out]; exact noTx_own _ _, HBB.out⟩
                    · have HDE := Lib.hid (HD.out.trans (if_neg hze))
                      obtain ⟨er, her⟩ : ∃ e, e = z.err := ⟨_, rfl⟩
                      rw [← her] at b1 hze HDE
                      have he1 : (er == 0) = false := by simpa using hze
                      have he2 : (er != 0) = true := by simpa using hze
                      clear her
                      have x0 : wa.cell? ⟨X, 0, none⟩ = some (.int .u32 0) := cell_at HQ.out.x
                      have x1 : wa.cell? ⟨X, 1, none⟩ = some (.slice none 0 0) := cell_at HQ.out.x
                      have x2 : wa.cell? ⟨X, 2, none⟩ = some (.slice none 0 0) := cell_at HQ.out.x
                      have x3 : wa.cell? ⟨X, 3, none⟩ = some (.int .u32 0) := cell_at HQ.out.x
                      have f0 : wa.frozen? ⟨X, 0, none⟩ = false := free_at HQ.out.x
                      have f1 : wa.frozen? ⟨X, 1, none⟩ = false := free_at HQ.out.x
                      have f2 : wa.frozen? ⟨X, 2, none⟩ = false := free_at HQ.out.x
                      have f3 : wa.frozen? ⟨X, 3, none⟩ = false := free_at HQ.out.x
                      obtain ⟨-, c5⟩ := four_cells' HQ.out.x (.int .u32 ((0 : Nat) : Int)) (.slice none 0 0) (.slice none 0 0) (.int .u32 ((0 : Nat) : Int))
                      have hfx := c5 [X] (by simp)
                      have HBB := Lib.hid (HQ.out.bel.trans (hfx.below HQ.out.bel.size (by have := HQ.out.is; simp; omega)))
                      clear c5 hfx
                      go_wp2_with fail
                      go_region
                      have HBB := Lib.hid (HBB.out.drew)
                      go_wp2_with fail
                      refine bodyPost_ret (v := .tuple #[.agg #[.int .u32 ((0 : Nat) : Int), .slice none 0 0, .slice none 0 0, .int .u32 ((0 : Nat) : Int)], .int .i64 z.at_, .int .i64 er]) (by simp [results, Try.results28, go_sem, x0, x1, x2, x3]) rfl ⟨_, by rw [HDE.out], by rw [HDE.out]; exact noTx_own _ _, HBB.out⟩
              · as_aux_lemma =>
                  have hend := wits_none HZ7.out HRB.out (fun h => HXS.out (H46.out h)) HXL.out HWI.out HN.out hk HGO.out
                  have h8 := (numZ_psr 4 4294967295 3 (by decide)).stay s.data.toList z7 (by rw [hend]; exact four_ne)
                  rw [HZ8.out, hend] at h8
                  have h8' : z8 = ⟨z6.at_, 4⟩ := h8
                  have hz9 : z = ⟨z6.at_, 4⟩ := by
                    rw [HZ.out, h8']
                    unfold endZ
                    rw [if_neg (fun h => four_ne h.2)]
                  have hde := HD.out.trans (if_neg (show ¬ z.err = 0 by rw [hz9]; exact four_ne))
                  rw [hz9] at hde
                  have HDE := Lib.hid hde
                  clear hend h8 h8' hz9 hde
                  have x0 : wr.cell? ⟨X, 0, none⟩ = some (.int .u32 0) := cell_at HQ.out.x
                  have x1 : wr.cell? ⟨X, 1, none⟩ = some (.slice none 0 0) := cell_at HQ.out.x
                  have x2 : wr.cell? ⟨X, 2, none⟩ = some (.slice none 0 0) := cell_at HQ.out.x
                  have x3 : wr.cell? ⟨X, 3, none⟩ = some (.int .u32 0) := cell_at HQ.out.x
                  have f0 : wr.frozen? ⟨X, 0, none⟩ = false := free_at HQ.out.x
                  have f1 : wr.frozen? ⟨X, 1, none⟩ = false := free_at HQ.out.x
                  have f2 : wr.frozen? ⟨X, 2, none⟩ = false := free_at HQ.out.x
                  have f3 : wr.frozen? ⟨X, 3, none⟩ = false := free_at HQ.out.x
                  obtain ⟨-, c5⟩ := four_cells' HQ.out.x (.int .u32 ((0 : Nat) : Int)) (.slice none 0 0) (.slice none 0 0) (.int .u32 ((0 : Nat) : Int))
                  have hfx := c5 [X] (by simp)
                  have HBB := Lib.hid (HQ.out.bel.trans (hfx.below HQ.out.bel.size (by have := HQ.out.is; simp; omega)))
                  clear c5 hfx
                  go_wp2_with fail
                  refine bodyPost_ret (v := .tuple #[.agg #[.int .u32 ((0 : Nat) : Int), .slice none 0 0, .slice none 0 0, .int .u32 ((0 : Nat) : Int)], .int .i64 z6.at_, .int .i64 4]) (by simp [results, Try.results28, go_sem, x0, x1, x2, x3]) rfl ⟨_, by rw [HDE.out], by rw [HDE.out]; exact noTx_own _ _, HBB.out⟩
end Go.Proofs.Ytmcknjldimnaoaa
