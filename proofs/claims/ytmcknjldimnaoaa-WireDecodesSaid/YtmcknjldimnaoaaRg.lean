/-
  The document's reading: kedgeref03.Get, number, count, text. Conditions: the place is in the text.
-/
import Derived.Test.YtmcknjldimnaoaaRc
namespace Go.Proofs.Ytmcknjldimnaoaa
open Go.RowKit Go.BigFrame
set_option linter.unusedVariables false
set_option linter.unusedSimpArgs false

theorem vget_form (s : ByteArray) (p b : Nat) (hlt : p < s.size) (hb : (s[p]'hlt).toNat = b) (k : Nat) (hk : kOf b = k) :
    vgetL s.data.toList p = if s.size < p + 1 + k then (0, 0, 5) else if bL (vintL (if k = 0 then b else getN s (p + 1) k)) = s.extract p (p + 1 + k) then (if k = 0 then b else getN s (p + 1) k, p + 1 + k, 0) else (0, 0, 4) := by
  have hB : byteAt s.data.toList p = b := (byteAt_get hlt).trans hb
  have hln := data_len s
  unfold vgetL vnum
  rw [if_neg (by omega), hB, hk, hln]
  by_cases h1 : s.size < p + 1 + k
  · rw [if_pos h1, if_pos h1]
  · rw [if_neg h1, if_neg h1]
    obtain ⟨c, hc⟩ := drop_cons (l := s.data.toList) (i := p) (by omega)
    have hcb : c.toNat = b := (byteAt_drop hc).symm.trans hB
    have hpl := pt_len (l := s.data.toList) (i := p + 1) (k := k) (by omega)
    have hf := vint_first c (pt s.data.toList (p + 1) k) (by rw [hpl, hcb, hk])
    rw [hcb, hk] at hf
    have hx : s.extract p (p + 1 + k) = bL (c :: pt s.data.toList (p + 1) k) := by
      rw [show p + 1 + k = p + (1 + k) by omega, extract_pt]
      congr 1
      unfold pt
      rw [hc, Nat.add_comm 1 k]
      rfl
    have hiff : bL (vintL (if k = 0 then b else getN s (p + 1) k)) = s.extract p (p + 1 + k) ↔ (vintL (if k = 0 then b else getN s (p + 1) k)).length = 1 + k := by
      rw [hx]
      have h3 : ∀ l m, bL l = bL m ↔ l = m := fun l m => ⟨fun h => by have := congrArg (fun s => s.data.toList) h; simpa [bL] using this, fun h => by rw [h]⟩
      rw [h3]
      exact hf.symm
    by_cases h2 : (vintL (if k = 0 then b else getN s (p + 1) k)).length = 1 + k
    · rw [if_pos (hiff.2 h2)]
      show (if (vintL (if k = 0 then b else getN s (p + 1) k)).length = 1 + k then _ else _) = _
      rw [if_pos h2]
      rfl
    · rw [if_neg (fun h => h2 (hiff.1 h))]
      show (if (vintL (if k = 0 then b else getN s (p + 1) k)).length = 1 + k then _ else _) = _
      rw [if_neg h2]

theorem bytes_not {a b : ByteArray} (h : a ≠ b) : (a.toList == b.toList) = false := by
  rw [ByteArray.toList_eq, ByteArray.toList_eq, beq_eq_false_iff_ne]
  intro e
  apply h
  apply ByteArray.ext
  apply Array.ext'
  simpa using e
set_option maxRecDepth 100000 in
set_option maxHeartbeats 4000000 in
theorem rvget_any (s : ByteArray) (p : Nat) (w : World) (hs : s.size ≤ 9223372036854775000) (hp : p ≤ s.size) : Calls Try.prog 80 #[.string s, .int .i64 p] w (VIs (vgetL s.data.toList p) w) := by
  have hp0 : (0 : Int) ≤ (p : Int) := by omega
  have hp1 : (p : Int) ≤ (s.size : Int) := by omega
  have hln := data_len s
  by_cases hpe : p = s.size
  · have HF := Lib.hid (show vgetL s.data.toList p = (0, 0, 5) by unfold vgetL; rw [if_pos (by omega)])
    have HB0 := Lib.hid (Below.refl w.heap.size w)
    have hpi : (p : Int) = (s.size : Int) := by omega
    clear hpe hln
    go_enter Try.func80, Try.ntmps80
    go_wp2_with fail
    exact bodyPost_ret (v := .tuple #[.int .u64 ((0 : Nat)), .int .i64 ((0 : Nat)), .int .i64 5]) (by simp [results, Try.results80, go_sem]) rfl ⟨ret_v HF.out, HB0.out⟩
  · have hlt : p < s.size := by omega
    have hlt2 : (p : Int) < (s.size : Int) := by omega
    have hne : (p : Int) ≠ (s.size : Int) := by omega
    have hne2 : ((p : Int) == (s.size : Int)) = false := by simpa using hne
    have hsI : (s.size : Int) ≤ 9223372036854775000 := by omega
    obtain ⟨b, hb⟩ : ∃ b, (s[p]'hlt).toNat = b := ⟨_, rfl⟩
    have hb8 : b < 256 := by rw [← hb]; exact UInt8.toNat_lt _
    have HV := Lib.hid (vget_form s p b hlt hb)
    have HG := Lib.hid (fun (k : Nat) (hk : okSize k) (h : p + 1 + k ≤ s.size) y => rget_yes s (p + 1) k hk (by omega) h y)
    have HP := Lib.hid (fun (n : Nat) (hn : n < 18446744073709551616) y => rvput_any n hn y)
    clear hpe hln
    rcases kOf_cases b with ⟨h, h1, h2, h3⟩ | ⟨rfl, h⟩ | ⟨rfl, h⟩ | ⟨rfl, h⟩
    · have e1 : ((b : Int) == 253) = false := by rw [beq_eq_false_iff_ne]; omega
      have e2 : ((b : Int) == 254) = false := by rw [beq_eq_false_iff_ne]; omega
      have e3 : ((b : Int) == 255) = false := by rw [beq_eq_false_iff_ne]; omega
      have HV := Lib.hid ((HV.out 0 h).trans (if_neg (by omega)))
      have HP := Lib.hid (HP.out b (by omega))
      rw [if_pos rfl] at HV
      have hp2 : (p : Int) + 1 ≤ s.size := by omega
      clear h h1 h2 h3 HG
      obtain ⟨t, ht⟩ : ∃ t, t = bL (vintL b) := ⟨_, rfl⟩
      unfold SIs at HP
      rw [← ht] at HP HV
      clear ht
      by_cases hx : t = s.extract p (p + 1)
      · have HR := Lib.hid (HV.out.trans (if_pos hx))
        subst hx
        clear HV
        go_enter Try.func80, Try.ntmps80
        go_wp2_with fail
        refine (HP.out w).mono ?_
        rintro e w' ⟨rfl, hb1⟩
        have HB0 := Lib.hid hb1
        clear hb1
        go_wp2_with fail
        exact bodyPost_ret (v := .tuple #[.int .u64 (b), .int .i64 (((p + 1 : Nat) : Int)), .int .i64 0]) (by simp [results, Try.results80, go_sem]) rfl ⟨ret_v HR.out, HB0.out⟩
      · have HR := Lib.hid (HV.out.trans (if_neg hx))
        clear HV
        have hx2 := bytes_not hx
        clear hx
        go_enter Try.func80, Try.ntmps80
        go_wp2_with fail
        refine (HP.out w).mono ?_
        rintro e w' ⟨rfl, hb1⟩
        have HB0 := Lib.hid hb1
        clear hb1
        go_wp2_with fail
        exact bodyPost_ret (v := .tuple #[.int .u64 ((0 : Nat)), .int .i64 ((0 : Nat)), .int .i64 4]) (by simp [results, Try.results80, go_sem]) rfl ⟨ret_v HR.out, HB0.out⟩
    · have HV := Lib.hid (HV.out 2 h)
      rw [if_neg (show ¬ (2 = 0) by decide)] at HV
      clear h
      by_cases hq : s.size < p + 1 + 2
      · have HR := Lib.hid (HV.out.trans (if_pos hq))
        have hqI : (s.size : Int) < (p : Int) + 1 + 2 := by omega
        clear HV HG HP
        go_enter Try.func80, Try.ntmps80
        have HB0 := Lib.hid (Below.refl w.heap.size w)
        go_wp2_with fail
        exact bodyPost_ret (v := .tuple #[.int .u64 ((0 : Nat)), .int .i64 ((0 : Nat)), .int .i64 5]) (by simp [results, Try.results80, go_sem]) rfl ⟨ret_v HR.out, HB0.out⟩
      · have HV := Lib.hid (HV.out.trans (if_neg hq))
        have HG := Lib.hid (show ∀ y : World, Calls Try.prog 79 #[.string s, .int .i64 ((p : Int) + 1), .int .i64 2] y _ from HG.out 2 (.inr (.inl rfl)) (by omega))
        have hgl := getN_lt (s := s) (p := p + 1) (k := 2) (by omega)
        obtain ⟨n, hn⟩ : ∃ n, n = getN s (p + 1) 2 := ⟨_, rfl⟩
        rw [← hn] at HG HV hgl
        have HP := Lib.hid (HP.out n hgl)
        have hp2 : (p : Int) + 1 + 2 ≤ s.size := by omega
        clear hn
        obtain ⟨t, ht⟩ : ∃ t, t = bL (vintL n) := ⟨_, rfl⟩
        unfold SIs at HP
        rw [← ht] at HP HV
        clear ht
        by_cases hx : t = s.extract p (p + 1 + 2)
        · have HR := Lib.hid (HV.out.trans (if_pos hx))
          subst hx
          clear HV
          go_enter Try.func80, Try.ntmps80
          go_wp2_with fail
          refine (HG.out w).mono ?_
          rintro e w' ⟨rfl, rfl⟩
          go_wp2_with fail
          refine (HP.out w).mono ?_
          rintro e w' ⟨rfl, hb1⟩
          have HB0 := Lib.hid hb1
          clear hb1
          go_wp2_with fail
          exact bodyPost_ret (v := .tuple #[.int .u64 (n), .int .i64 (((p + 1 + 2 : Nat) : Int)), .int .i64 0]) (by simp [results, Try.results80, go_sem]) rfl ⟨ret_v HR.out, HB0.out⟩
        · have HR := Lib.hid (HV.out.trans (if_neg hx))
          clear HV
          have hx2 := bytes_not hx
          clear hx
          go_enter Try.func80, Try.ntmps80
          go_wp2_with fail
          refine (HG.out w).mono ?_
          rintro e w' ⟨rfl, rfl⟩
          go_wp2_with fail
          refine (HP.out w).mono ?_
          rintro e w' ⟨rfl, hb1⟩
          have HB0 := Lib.hid hb1
          clear hb1
          go_wp2_with fail
          exact bodyPost_ret (v := .tuple #[.int .u64 ((0 : Nat)), .int .i64 ((0 : Nat)), .int .i64 4]) (by simp [results, Try.results80, go_sem]) rfl ⟨ret_v HR.out, HB0.out⟩
    · have HV := Lib.hid (HV.out 4 h)
      rw [if_neg (show ¬ (4 = 0) by decide)] at HV
      clear h
      by_cases hq : s.size < p + 1 + 4
      · have HR := Lib.hid (HV.out.trans (if_pos hq))
        have hqI : (s.size : Int) < (p : Int) + 1 + 4 := by omega
        clear HV HG HP
        go_enter Try.func80, Try.ntmps80
        have HB0 := Lib.hid (Below.refl w.heap.size w)
        go_wp2_with fail
        exact bodyPost_ret (v := .tuple #[.int .u64 ((0 : Nat)), .int .i64 ((0 : Nat)), .int .i64 5]) (by simp [results, Try.results80, go_sem]) rfl ⟨ret_v HR.out, HB0.out⟩
      · have HV := Lib.hid (HV.out.trans (if_neg hq))
        have HG := Lib.hid (show ∀ y : World, Calls Try.prog 79 #[.string s, .int .i64 ((p : Int) + 1), .int .i64 4] y _ from HG.out 4 (.inr (.inr (.inl rfl))) (by omega))
        have hgl := getN_lt (s := s) (p := p + 1) (k := 4) (by omega)
        obtain ⟨n, hn⟩ : ∃ n, n = getN s (p + 1) 4 := ⟨_, rfl⟩
        rw [← hn] at HG HV hgl
        have HP := Lib.hid (HP.out n hgl)
        have hp2 : (p : Int) + 1 + 4 ≤ s.size := by omega
        clear hn
        obtain ⟨t, ht⟩ : ∃ t, t = bL (vintL n) := ⟨_, rfl⟩
        unfold SIs at HP
        rw [← ht] at HP HV
        clear ht
        by_cases hx : t = s.extract p (p + 1 + 4)
        · have HR := Lib.hid (HV.out.trans (if_pos hx))
          subst hx
          clear HV
          go_enter Try.func80, Try.ntmps80
          go_wp2_with fail
          refine (HG.out w).mono ?_
          rintro e w' ⟨rfl, rfl⟩
          go_wp2_with fail
          refine (HP.out w).mono ?_
          rintro e w' ⟨rfl, hb1⟩
          have HB0 := Lib.hid hb1
          clear hb1
          go_wp2_with fail
          exact bodyPost_ret (v := .tuple #[.int .u64 (n), .int .i64 (((p + 1 + 4 : Nat) : Int)), .int .i64 0]) (by simp [results, Try.results80, go_sem]) rfl ⟨ret_v HR.out, HB0.out⟩
        · have HR := Lib.hid (HV.out.trans (if_neg hx))
          clear HV
          have hx2 := bytes_not hx
          clear hx
          go_enter Try.func80, Try.ntmps80
          go_wp2_with fail
          refine (HG.out w).mono ?_
          rintro e w' ⟨rfl, rfl⟩
          go_wp2_with fail
          refine (HP.out w).mono ?_
          rintro e w' ⟨rfl, hb1⟩
          have HB0 := Lib.hid hb1
          clear hb1
          go_wp2_with fail
          exact bodyPost_ret (v := .tuple #[.int .u64 ((0 : Nat)), .int .i64 ((0 : Nat)), .int .i64 4]) (by simp [results, Try.results80, go_sem]) rfl ⟨ret_v HR.out, HB0.out⟩
    · have HV := Lib.hid (HV.out 8 h)
      rw [if_neg (show ¬ (8 = 0) by decide)] at HV
      clear h
      by_cases hq : s.size < p + 1 + 8
      · have HR := Lib.hid (HV.out.trans (if_pos hq))
        have hqI : (s.size : Int) < (p : Int) + 1 + 8 := by omega
        clear HV HG HP
        go_enter Try.func80, Try.ntmps80
        have HB0 := Lib.hid (Below.refl w.heap.size w)
        go_wp2_with fail
        exact bodyPost_ret (v := .tuple #[.int .u64 ((0 : Nat)), .int .i64 ((0 : Nat)), .int .i64 5]) (by simp [results, Try.results80, go_sem]) rfl ⟨ret_v HR.out, HB0.out⟩
      · have HV := Lib.hid (HV.out.trans (if_neg hq))
        have HG := Lib.hid (show ∀ y : World, Calls Try.prog 79 #[.string s, .int .i64 ((p : Int) + 1), .int .i64 8] y _ from HG.out 8 (.inr (.inr (.inr rfl))) (by omega))
        have hgl := getN_lt (s := s) (p := p + 1) (k := 8) (by omega)
        obtain ⟨n, hn⟩ : ∃ n, n = getN s (p + 1) 8 := ⟨_, rfl⟩
        rw [← hn] at HG HV hgl
        have HP := Lib.hid (HP.out n hgl)
        have hp2 : (p : Int) + 1 + 8 ≤ s.size := by omega
        clear hn
        obtain ⟨t, ht⟩ : ∃ t, t = bL (vintL n) := ⟨_, rfl⟩
        unfold SIs at HP
        rw [← ht] at HP HV
        clear ht
        by_cases hx : t = s.extract p (p + 1 + 8)
        · have HR := Lib.hid (HV.out.trans (if_pos hx))
          subst hx
          clear HV
          go_enter Try.func80, Try.ntmps80
          go_wp2_with fail
          refine (HG.out w).mono ?_
          rintro e w' ⟨rfl, rfl⟩
          go_wp2_with fail
          refine (HP.out w).mono ?_
          rintro e w' ⟨rfl, hb1⟩
          have HB0 := Lib.hid hb1
          clear hb1
          go_wp2_with fail
          exact bodyPost_ret (v := .tuple #[.int .u64 (n), .int .i64 (((p + 1 + 8 : Nat) : Int)), .int .i64 0]) (by simp [results, Try.results80, go_sem]) rfl ⟨ret_v HR.out, HB0.out⟩
        · have HR := Lib.hid (HV.out.trans (if_neg hx))
          clear HV
          have hx2 := bytes_not hx
          clear hx
          go_enter Try.func80, Try.ntmps80
          go_wp2_with fail
          refine (HG.out w).mono ?_
          rintro e w' ⟨rfl, rfl⟩
          go_wp2_with fail
          refine (HP.out w).mono ?_
          rintro e w' ⟨rfl, hb1⟩
          have HB0 := Lib.hid hb1
          clear hb1
          go_wp2_with fail
          exact bodyPost_ret (v := .tuple #[.int .u64 ((0 : Nat)), .int .i64 ((0 : Nat)), .int .i64 4]) (by simp [results, Try.results80, go_sem]) rfl ⟨ret_v HR.out, HB0.out⟩

theorem two_new (w : World) (o1 o2 : Obj) : ((w.alloc o1).alloc o2).heap[w.heap.size]? = some o1 ∧ ((w.alloc o1).alloc o2).heap[w.heap.size + 1]? = some o2 ∧ Below w.heap.size w ((w.alloc o1).alloc o2) := by
  have h1 := heap_alloc_new w o1
  have h2 := heap_alloc_new (w.alloc o1) o2
  have hs : (w.alloc o1).heap.size = w.heap.size + 1 := by simp
  have hb : Below (w.alloc o1).heap.size (w.alloc o1) ((w.alloc o1).alloc o2) := (Below.refl _ _).alloc (Nat.le_refl _) o2
  rw [hs] at h2
  exact ⟨(hb.block _ (Array.getElem?_eq_some_iff.1 h1).1).trans h1, h2, ((Below.refl _ _).alloc (Nat.le_refl _) o1).trans (hb.mono (by omega))⟩
def zV (z : Zst) : Value := .agg #[.int .i64 z.at_, .int .i64 z.err]
/-- It returns this state and this value, and makes new blocks alone. -/
def ZIs (z : Zst) (v : Value) (w : World) (e : Ending) (w' : World) : Prop := e = .returned (.tuple #[zV z, v]) ∧ Below w.heap.size w w'
theorem ret_z {p : Nat} {er : Int} {z : Zst} {v v' : Value} (h : z = ⟨p, er⟩) (hv : v' = v) : Ending.returned (.tuple #[.agg #[.int .i64 p, .int .i64 er], v]) = .returned (.tuple #[zV z, v']) := by rw [h, hv]; rfl
set_option maxRecDepth 100000 in
set_option maxHeartbeats 4000000 in
theorem rnumber_any (s : ByteArray) (z : Zst) (k most : Nat) (c : Int) (w : World) (hk : okSize k) (hs : s.size ≤ 9223372036854775000) (hz : z.at_ ≤ s.size) (hm : most < 18446744073709551616) :
    Calls Try.prog 47 #[.string s, zV z, .int .i64 k, .int .u64 most, .int .i64 c] w (ZIs (numZ k most c s.data.toList z).1 (.int .u64 (numZ k most c s.data.toList z).2) w) := by
  have hk8 : k ≤ 8 := by unfold okSize at hk; omega
  obtain ⟨p, er⟩ := z
  dsimp only at hz
  unfold zV
  have hln := data_len s
  obtain ⟨r, hr⟩ : ∃ r, r = numZ k most c s.data.toList ⟨p, er⟩ := ⟨_, rfl⟩
  rw [← hr]
  dsimp only
  by_cases he : er = 0
  · subst he
    by_cases h1 : s.size < p + k
    · have HR := Lib.hid (hr.trans (show _ = ((⟨p, 5⟩ : Zst), 0) from numZ_short (by rw [hln]; exact h1)))
      have HN1 := Lib.hid (fun y => rget_no s p k hk (by omega) (.inr (by omega)) y)
      clear hr h1 hk hln
      go_enter Try.func47, Try.ntmps47
      go_upto_region 1 with fail
      have h2 := two_new w (.cells #[.int .i64 p, .int .i64 0] 76) (.cells #[.int .i64 0, .int .i64 0] 76)
      obtain ⟨B, hB⟩ : ∃ q, q = w.heap.size := ⟨_, rfl⟩
      rw [← hB] at h2 ⊢
      generalize (w.alloc (.cells #[.int .i64 p, .int .i64 0] 76)).alloc (.cells #[.int .i64 0, .int .i64 0] 76) = wb at *
      have HN := Lib.hid hB
      have HZB := Lib.hid h2.1
      have HZX := Lib.hid h2.2.1
      have HB := Lib.hid (show Below w.heap.size w wb by rw [← hB]; exact h2.2.2)
      clear h2 hB
      have b0 : wb.cell? ⟨B, 0, none⟩ = some (.int .i64 p) := cell_at HZB.out
      have b1 : wb.cell? ⟨B, 1, none⟩ = some (.int .i64 0) := cell_at HZB.out
      have x0 : wb.cell? ⟨B + 1, 0, none⟩ = some (.int .i64 0) := cell_at HZX.out
      have x1 : wb.cell? ⟨B + 1, 1, none⟩ = some (.int .i64 0) := cell_at HZX.out
      have fb0 : wb.frozen? ⟨B, 0, none⟩ = false := free_at HZB.out
      have fb1 : wb.frozen? ⟨B, 1, none⟩ = false := free_at HZB.out
      have fx0 : wb.frozen? ⟨B + 1, 0, none⟩ = false := free_at HZX.out
      have fx1 : wb.frozen? ⟨B + 1, 1, none⟩ = false := free_at HZX.out
      go_wp2_with fail
      refine (HN1.out wb).mono ?_
      rintro e w' ⟨rfl, rfl⟩
      go_wp2_with fail
      refine bodyPost_ret (v := .tuple #[.agg #[.int .i64 ((p : Int)), .int .i64 (5)], .int .u64 ((0 : Nat) : Int)]) (by simp [results, Try.results47, go_sem, x0, x1]) rfl ⟨ret_z (congrArg Prod.fst HR.out) (by rw [HR.out]), ?_⟩
      repeat' first | exact HB.out | refine Below.setCell ?_ ?_ _ | (have := HN.out; dsimp only; omega)
    · have hyes := fun y => rget_yes s p k hk (by omega) (by omega) y
      have hn := getN_lt (s := s) (p := p) hk8
      obtain ⟨n, hgn⟩ : ∃ n, n = getN s p k := ⟨_, rfl⟩
      rw [← hgn] at hyes hn
      have HN1 := Lib.hid hyes
      have hnp : leN (pt s.data.toList p k) = n := by rw [hgn, getN_pt]
      have hl : ¬ s.data.toList.length < p + k := by rw [hln]; exact h1
      clear hyes hgn
      by_cases h2 : most < n
      · have HR := Lib.hid (hr.trans (show _ = ((⟨p, c⟩ : Zst), 0) from numZ_great hl (by rw [hnp]; exact h2)))
        have hgt : (most : Int) < (n : Int) := by omega
        clear hr h1 hk hln hnp hl
        go_enter Try.func47, Try.ntmps47
        go_upto_region 1 with fail
        have h2 := two_new w (.cells #[.int .i64 p, .int .i64 0] 76) (.cells #[.int .i64 0, .int .i64 0] 76)
        obtain ⟨B, hB⟩ : ∃ q, q = w.heap.size := ⟨_, rfl⟩
        rw [← hB] at h2 ⊢
        generalize (w.alloc (.cells #[.int .i64 p, .int .i64 0] 76)).alloc (.cells #[.int .i64 0, .int .i64 0] 76) = wb at *
        have HN := Lib.hid hB
        have HZB := Lib.hid h2.1
        have HZX := Lib.hid h2.2.1
        have HB := Lib.hid (show Below w.heap.size w wb by rw [← hB]; exact h2.2.2)
        clear h2 hB
        have b0 : wb.cell? ⟨B, 0, none⟩ = some (.int .i64 p) := cell_at HZB.out
        have b1 : wb.cell? ⟨B, 1, none⟩ = some (.int .i64 0) := cell_at HZB.out
        have x0 : wb.cell? ⟨B + 1, 0, none⟩ = some (.int .i64 0) := cell_at HZX.out
        have x1 : wb.cell? ⟨B + 1, 1, none⟩ = some (.int .i64 0) := cell_at HZX.out
        have fb0 : wb.frozen? ⟨B, 0, none⟩ = false := free_at HZB.out
        have fb1 : wb.frozen? ⟨B, 1, none⟩ = false := free_at HZB.out
        have fx0 : wb.frozen? ⟨B + 1, 0, none⟩ = false := free_at HZX.out
        have fx1 : wb.frozen? ⟨B + 1, 1, none⟩ = false := free_at HZX.out
        go_wp2_with fail
        refine (HN1.out wb).mono ?_
        rintro e w' ⟨rfl, rfl⟩
        go_wp2_with fail
        refine bodyPost_ret (v := .tuple #[.agg #[.int .i64 ((p : Int)), .int .i64 (c)], .int .u64 ((0 : Nat) : Int)]) (by simp [results, Try.results47, go_sem, x0, x1]) rfl ⟨ret_z (congrArg Prod.fst HR.out) (by rw [HR.out]), ?_⟩
        repeat' first | exact HB.out | refine Below.setCell ?_ ?_ _ | (have := HN.out; dsimp only; omega)
      · have hgt : ¬ (most : Int) < (n : Int) := by omega
        have hr2 := hr.trans (numZ_yes hl (by rw [hnp]; exact h2) rfl)
        rw [hnp] at hr2
        have HR := Lib.hid hr2
        have hpI : (p : Int) + k ≤ 9223372036854775000 := by omega
        clear hr h1 hk hln hnp hl hr2
        go_enter Try.func47, Try.ntmps47
        go_upto_region 1 with fail
        have h2 := two_new w (.cells #[.int .i64 p, .int .i64 0] 76) (.cells #[.int .i64 0, .int .i64 0] 76)
        obtain ⟨B, hB⟩ : ∃ q, q = w.heap.size := ⟨_, rfl⟩
        rw [← hB] at h2 ⊢
        generalize (w.alloc (.cells #[.int .i64 p, .int .i64 0] 76)).alloc (.cells #[.int .i64 0, .int .i64 0] 76) = wb at *
        have HN := Lib.hid hB
        have HZB := Lib.hid h2.1
        have HZX := Lib.hid h2.2.1
        have HB := Lib.hid (show Below w.heap.size w wb by rw [← hB]; exact h2.2.2)
        clear h2 hB
        have b0 : wb.cell? ⟨B, 0, none⟩ = some (.int .i64 p) := cell_at HZB.out
        have b1 : wb.cell? ⟨B, 1, none⟩ = some (.int .i64 0) := cell_at HZB.out
        have x0 : wb.cell? ⟨B + 1, 0, none⟩ = some (.int .i64 0) := cell_at HZX.out
        have x1 : wb.cell? ⟨B + 1, 1, none⟩ = some (.int .i64 0) := cell_at HZX.out
        have fb0 : wb.frozen? ⟨B, 0, none⟩ = false := free_at HZB.out
        have fb1 : wb.frozen? ⟨B, 1, none⟩ = false := free_at HZB.out
        have fx0 : wb.frozen? ⟨B + 1, 0, none⟩ = false := free_at HZX.out
        have fx1 : wb.frozen? ⟨B + 1, 1, none⟩ = false := free_at HZX.out
        go_wp2_with fail
        refine (HN1.out wb).mono ?_
        rintro e w' ⟨rfl, rfl⟩
        go_wp2_with fail
        refine bodyPost_ret (v := .tuple #[.agg #[.int .i64 (((p + k : Nat) : Int)), .int .i64 (0)], .int .u64 (n : Int)]) (by simp [results, Try.results47, go_sem, x0, x1]) rfl ⟨ret_z (congrArg Prod.fst HR.out) (by rw [HR.out]), ?_⟩
        repeat' first | exact HB.out | refine Below.setCell ?_ ?_ _ | (have := HN.out; dsimp only; omega)
  · have HR := Lib.hid (hr.trans (numZ_no he))
    have hne1 : (er != 0) = true := by simpa using he
    clear hr hk hln
    go_enter Try.func47, Try.ntmps47
    go_upto_region 1 with fail
    have h2 := two_new w (.cells #[.int .i64 p, .int .i64 er] 76) (.cells #[.int .i64 0, .int .i64 0] 76)
    obtain ⟨B, hB⟩ : ∃ q, q = w.heap.size := ⟨_, rfl⟩
    rw [← hB] at h2 ⊢
    generalize (w.alloc (.cells #[.int .i64 p, .int .i64 er] 76)).alloc (.cells #[.int .i64 0, .int .i64 0] 76) = wb at *
    have HN := Lib.hid hB
    have HZB := Lib.hid h2.1
    have HZX := Lib.hid h2.2.1
    have HB := Lib.hid (show Below w.heap.size w wb by rw [← hB]; exact h2.2.2)
    clear h2 hB
    have b0 : wb.cell? ⟨B, 0, none⟩ = some (.int .i64 p) := cell_at HZB.out
    have b1 : wb.cell? ⟨B, 1, none⟩ = some (.int .i64 er) := cell_at HZB.out
    have x0 : wb.cell? ⟨B + 1, 0, none⟩ = some (.int .i64 0) := cell_at HZX.out
    have x1 : wb.cell? ⟨B + 1, 1, none⟩ = some (.int .i64 0) := cell_at HZX.out
    have fb0 : wb.frozen? ⟨B, 0, none⟩ = false := free_at HZB.out
    have fb1 : wb.frozen? ⟨B, 1, none⟩ = false := free_at HZB.out
    have fx0 : wb.frozen? ⟨B + 1, 0, none⟩ = false := free_at HZX.out
    have fx1 : wb.frozen? ⟨B + 1, 1, none⟩ = false := free_at HZX.out
    go_wp2_with fail
    refine bodyPost_ret (v := .tuple #[.agg #[.int .i64 ((p : Int)), .int .i64 (er)], .int .u64 ((0 : Nat) : Int)]) (by simp [results, Try.results47, go_sem, x0, x1]) rfl ⟨ret_z (congrArg Prod.fst HR.out) (by rw [HR.out]), ?_⟩
    repeat' first | exact HB.out | refine Below.setCell ?_ ?_ _ | (have := HN.out; dsimp only; omega)
end Go.Proofs.Ytmcknjldimnaoaa
