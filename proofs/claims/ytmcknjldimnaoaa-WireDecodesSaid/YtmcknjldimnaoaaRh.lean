/-
  The document's reading: count, text. Conditions: the place is in the text.
-/
import Derived.Test.YtmcknjldimnaoaaRg
import Derived.RegionTactic
namespace Go.Proofs.Ytmcknjldimnaoaa
open Go.RowKit Go.BigFrame
set_option linter.unusedVariables false
set_option linter.unusedSimpArgs false

set_option maxRecDepth 100000 in
set_option maxHeartbeats 4000000 in
theorem rcount_any (s : ByteArray) (z : Zst) (least most : Nat) (c : Int) (w : World) (hs : s.size ≤ 9223372036854775000) (hz : z.at_ ≤ s.size) (hm : most ≤ 1000000) (hlm : least ≤ 1000000) :
    Calls Try.prog 50 #[.string s, zV z, .int .u64 least, .int .u64 most, .int .i64 c] w (ZIs (cntZ least most c s.data.toList z).1 (.int .i64 (cntZ least most c s.data.toList z).2) w) := by
  obtain ⟨p, er⟩ := z
  dsimp only at hz
  unfold zV
  obtain ⟨r, hr⟩ : ∃ r, r = cntZ least most c s.data.toList ⟨p, er⟩ := ⟨_, rfl⟩
  rw [← hr]
  dsimp only
  by_cases he : er = 0
  · subst he
    have HG := Lib.hid (fun y => rvget_any s p y hs hz)
    unfold VIs at HG
    have h0 : ∀ c', (vgetL s.data.toList p).2.2 = c' → c' ≠ 0 → r = ((⟨p, c'⟩ : Zst), 0) := fun c' h h2 => hr.trans (cntZ_fail h h2)
    have h1 : (vgetL s.data.toList p).2.2 = 0 → ((vgetL s.data.toList p).1 < least ∨ most < (vgetL s.data.toList p).1) → r = ((⟨p, c⟩ : Zst), 0) := fun h h2 => hr.trans (cntZ_out h h2)
    have h2 : (vgetL s.data.toList p).2.2 = 0 → ¬ ((vgetL s.data.toList p).1 < least ∨ most < (vgetL s.data.toList p).1) → r = ((⟨(vgetL s.data.toList p).2.1, 0⟩ : Zst), (vgetL s.data.toList p).1) := fun h h2 => hr.trans (cntZ_yes h h2 rfl)
    obtain ⟨n, q, c', hv⟩ : ∃ n q c', vgetL s.data.toList p = (n, q, c') := ⟨_, _, _, rfl⟩
    rw [hv] at h0 h1 h2 HG
    dsimp only at h0 h1 h2 HG
    clear hr hv
    have HH := Lib.hid (And.intro h0 (And.intro h1 h2))
    clear h0 h1 h2
    by_cases hc' : c' = 0
    · subst hc'
      by_cases ho : n < least ∨ most < n
      · have HR := Lib.hid (HH.out.2.1 rfl ho)
        clear HH
        by_cases ho1 : n < least
        · have hoI : (n : Int) < (least : Int) := by omega
          clear ho
          go_enter Try.func50, Try.ntmps50
          go_upto_region 1 with fail
          have h2 := two_new w (.cells #[.int .i64 p, .int .i64 0] 76) (.cells #[.int .i64 0, .int .i64 0] 76)
          obtain ⟨B, hB⟩ : ∃ q, q = w.heap.size := ⟨_, rfl⟩
          rw [← hB] at h2 ⊢
          generalize (w.alloc (.cells #[.int .i64 p, .int .i64 0] 76)).alloc (.cells #[.int .i64 0, .int .i64 0] 76) = wb at *
          have HN := Lib.hid hB
          have HZB := Lib.hid h2.1
          have HZX := Lib.hid h2.2.1
          have HB := Lib.hid (show Below w.heap.size w wb by rw [← hB]; exact h2.2.2)
          clear h2 hB
          have b0 : wb.cell? ⟨B, 0, none⟩ = some (.int .i64 p) := cell_at HZB.out
          have b1 : wb.cell? ⟨B, 1, none⟩ = some (.int .i64 0) := cell_at HZB.out
          have x0 : wb.cell? ⟨B + 1, 0, none⟩ = some (.int .i64 0) := cell_at HZX.out
          have x1 : wb.cell? ⟨B + 1, 1, none⟩ = some (.int .i64 0) := cell_at HZX.out
          have fb0 : wb.frozen? ⟨B, 0, none⟩ = false := free_at HZB.out
          have fb1 : wb.frozen? ⟨B, 1, none⟩ = false := free_at HZB.out
          have fx0 : wb.frozen? ⟨B + 1, 0, none⟩ = false := free_at HZX.out
          have fx1 : wb.frozen? ⟨B + 1, 1, none⟩ = false := free_at HZX.out
          go_wp2_with fail
          refine (HG.out wb).mono ?_
          rintro e w1 ⟨rfl, hb⟩
          have HZB := Lib.hid ((hb.block B (Array.getElem?_eq_some_iff.1 HZB.out).1).trans HZB.out)
          have HZX := Lib.hid ((hb.block (B + 1) (Array.getElem?_eq_some_iff.1 HZX.out).1).trans HZX.out)
          have HB := Lib.hid (HB.out.trans (hb.mono HB.out.size))
          clear hb b0 b1 x0 x1 fb0 fb1 fx0 fx1
          have b0 : w1.cell? ⟨B, 0, none⟩ = some (.int .i64 p) := cell_at HZB.out
          have b1 : w1.cell? ⟨B, 1, none⟩ = some (.int .i64 0) := cell_at HZB.out
          have x0 : w1.cell? ⟨B + 1, 0, none⟩ = some (.int .i64 0) := cell_at HZX.out
          have x1 : w1.cell? ⟨B + 1, 1, none⟩ = some (.int .i64 0) := cell_at HZX.out
          have fb0 : w1.frozen? ⟨B, 0, none⟩ = false := free_at HZB.out
          have fb1 : w1.frozen? ⟨B, 1, none⟩ = false := free_at HZB.out
          have fx0 : w1.frozen? ⟨B + 1, 0, none⟩ = false := free_at HZX.out
          have fx1 : w1.frozen? ⟨B + 1, 1, none⟩ = false := free_at HZX.out
          go_wp2_with fail
          refine bodyPost_ret (v := .tuple #[.agg #[.int .i64 ((p : Int)), .int .i64 (c)], .int .i64 ((0 : Nat) : Int)]) (by simp [results, Try.results50, go_sem, x0, x1]) rfl ⟨ret_z (congrArg Prod.fst HR.out) (by rw [HR.out]), ?_⟩
          repeat' first | exact HB.out | refine Below.drew ?_ | refine Below.setCell ?_ ?_ _ | (have := HN.out; dsimp only; omega)
        · have hoI : ¬ (n : Int) < (least : Int) := by omega
          have hoJ : (most : Int) < (n : Int) := by omega
          clear ho
          go_enter Try.func50, Try.ntmps50
          go_upto_region 1 with fail
          have h2 := two_new w (.cells #[.int .i64 p, .int .i64 0] 76) (.cells #[.int .i64 0, .int .i64 0] 76)
          obtain ⟨B, hB⟩ : ∃ q, q = w.heap.size := ⟨_, rfl⟩
          rw [← hB] at h2 ⊢
          generalize (w.alloc (.cells #[.int .i64 p, .int .i64 0] 76)).alloc (.cells #[.int .i64 0, .int .i64 0] 76) = wb at *
          have HN := Lib.hid hB
          have HZB := Lib.hid h2.1
          have HZX := Lib.hid h2.2.1
          have HB := Lib.hid (show Below w.heap.size w wb by rw [← hB]; exact h2.2.2)
          clear h2 hB
          have b0 : wb.cell? ⟨B, 0, none⟩ = some (.int .i64 p) := cell_at HZB.out
          have b1 : wb.cell? ⟨B, 1, none⟩ = some (.int .i64 0) := cell_at HZB.out
          have x0 : wb.cell? ⟨B + 1, 0, none⟩ = some (.int .i64 0) := cell_at HZX.out
          have x1 : wb.cell? ⟨B + 1, 1, none⟩ = some (.int .i64 0) := cell_at HZX.out
          have fb0 : wb.frozen? ⟨B, 0, none⟩ = false := free_at HZB.out
          have fb1 : wb.frozen? ⟨B, 1, none⟩ = false := free_at HZB.out
          have fx0 : wb.frozen? ⟨B + 1, 0, none⟩ = false := free_at HZX.out
          have fx1 : wb.frozen? ⟨B + 1, 1, none⟩ = false := free_at HZX.out
          go_wp2_with fail
          refine (HG.out wb).mono ?_
          rintro e w1 ⟨rfl, hb⟩
          have HZB := Lib.hid ((hb.block B (Array.getElem?_eq_some_iff.1 HZB.out).1).trans HZB.out)
          have HZX := Lib.hid ((hb.block (B + 1) (Array.getElem?_eq_some_iff.1 HZX.out).1).trans HZX.out)
          have HB := Lib.hid (HB.out.trans (hb.mono HB.out.size))
          clear hb b0 b1 x0 x1 fb0 fb1 fx0 fx1
          have b0 : w1.cell? ⟨B, 0, none⟩ = some (.int .i64 p) := cell_at HZB.out
          have b1 : w1.cell? ⟨B, 1, none⟩ = some (.int .i64 0) := cell_at HZB.out
          have x0 : w1.cell? ⟨B + 1, 0, none⟩ = some (.int .i64 0) := cell_at HZX.out
          have x1 : w1.cell? ⟨B + 1, 1, none⟩ = some (.int .i64 0) := cell_at HZX.out
          have fb0 : w1.frozen? ⟨B, 0, none⟩ = false := free_at HZB.out
          have fb1 : w1.frozen? ⟨B, 1, none⟩ = false := free_at HZB.out
          have fx0 : w1.frozen? ⟨B + 1, 0, none⟩ = false := free_at HZX.out
          have fx1 : w1.frozen? ⟨B + 1, 1, none⟩ = false := free_at HZX.out
          go_wp2_with fail
          refine bodyPost_ret (v := .tuple #[.agg #[.int .i64 ((p : Int)), .int .i64 (c)], .int .i64 ((0 : Nat) : Int)]) (by simp [results, Try.results50, go_sem, x0, x1]) rfl ⟨ret_z (congrArg Prod.fst HR.out) (by rw [HR.out]), ?_⟩
          repeat' first | exact HB.out | refine Below.drew ?_ | refine Below.setCell ?_ ?_ _ | (have := HN.out; dsimp only; omega)
      · have hoI : ¬ (n : Int) < (least : Int) := by omega
        have hoJ : ¬ (most : Int) < (n : Int) := by omega
        have HR := Lib.hid (HH.out.2.2 rfl ho)
        have hn1 : (n : Int) ≤ 1000000 := by omega
        clear HH ho
        go_enter Try.func50, Try.ntmps50
        go_upto_region 1 with fail
        have h2 := two_new w (.cells #[.int .i64 p, .int .i64 0] 76) (.cells #[.int .i64 0, .int .i64 0] 76)
        obtain ⟨B, hB⟩ : ∃ q, q = w.heap.size := ⟨_, rfl⟩
        rw [← hB] at h2 ⊢
        generalize (w.alloc (.cells #[.int .i64 p, .int .i64 0] 76)).alloc (.cells #[.int .i64 0, .int .i64 0] 76) = wb at *
        have HN := Lib.hid hB
        have HZB := Lib.hid h2.1
        have HZX := Lib.hid h2.2.1
        have HB := Lib.hid (show Below w.heap.size w wb by rw [← hB]; exact h2.2.2)
        clear h2 hB
        have b0 : wb.cell? ⟨B, 0, none⟩ = some (.int .i64 p) := cell_at HZB.out
        have b1 : wb.cell? ⟨B, 1, none⟩ = some (.int .i64 0) := cell_at HZB.out
        have x0 : wb.cell? ⟨B + 1, 0, none⟩ = some (.int .i64 0) := cell_at HZX.out
        have x1 : wb.cell? ⟨B + 1, 1, none⟩ = some (.int .i64 0) := cell_at HZX.out
        have fb0 : wb.frozen? ⟨B, 0, none⟩ = false := free_at HZB.out
        have fb1 : wb.frozen? ⟨B, 1, none⟩ = false := free_at HZB.out
        have fx0 : wb.frozen? ⟨B + 1, 0, none⟩ = false := free_at HZX.out
        have fx1 : wb.frozen? ⟨B + 1, 1, none⟩ = false := free_at HZX.out
        go_wp2_with fail
        refine (HG.out wb).mono ?_
        rintro e w1 ⟨rfl, hb⟩
        have HZB := Lib.hid ((hb.block B (Array.getElem?_eq_some_iff.1 HZB.out).1).trans HZB.out)
        have HZX := Lib.hid ((hb.block (B + 1) (Array.getElem?_eq_some_iff.1 HZX.out).1).trans HZX.out)
        have HB := Lib.hid (HB.out.trans (hb.mono HB.out.size))
        clear hb b0 b1 x0 x1 fb0 fb1 fx0 fx1
        have b0 : w1.cell? ⟨B, 0, none⟩ = some (.int .i64 p) := cell_at HZB.out
        have b1 : w1.cell? ⟨B, 1, none⟩ = some (.int .i64 0) := cell_at HZB.out
        have x0 : w1.cell? ⟨B + 1, 0, none⟩ = some (.int .i64 0) := cell_at HZX.out
        have x1 : w1.cell? ⟨B + 1, 1, none⟩ = some (.int .i64 0) := cell_at HZX.out
        have fb0 : w1.frozen? ⟨B, 0, none⟩ = false := free_at HZB.out
        have fb1 : w1.frozen? ⟨B, 1, none⟩ = false := free_at HZB.out
        have fx0 : w1.frozen? ⟨B + 1, 0, none⟩ = false := free_at HZX.out
        have fx1 : w1.frozen? ⟨B + 1, 1, none⟩ = false := free_at HZX.out
        go_wp2_with fail
        refine bodyPost_ret (v := .tuple #[.agg #[.int .i64 ((q : Int)), .int .i64 (0)], .int .i64 (n : Int)]) (by simp [results, Try.results50, go_sem, x0, x1]) rfl ⟨ret_z (congrArg Prod.fst HR.out) (by rw [HR.out]), ?_⟩
        repeat' first | exact HB.out | refine Below.drew ?_ | refine Below.setCell ?_ ?_ _ | (have := HN.out; dsimp only; omega)
    · have HR := Lib.hid (HH.out.1 c' rfl hc')
      have hcn : (c' != 0) = true := by simpa using hc'
      clear HH
      go_enter Try.func50, Try.ntmps50
      go_upto_region 1 with fail
      have h2 := two_new w (.cells #[.int .i64 p, .int .i64 0] 76) (.cells #[.int .i64 0, .int .i64 0] 76)
      obtain ⟨B, hB⟩ : ∃ q, q = w.heap.size := ⟨_, rfl⟩
      rw [← hB] at h2 ⊢
      generalize (w.alloc (.cells #[.int .i64 p, .int .i64 0] 76)).alloc (.cells #[.int .i64 0, .int .i64 0] 76) = wb at *
      have HN := Lib.hid hB
      have HZB := Lib.hid h2.1
      have HZX := Lib.hid h2.2.1
      have HB := Lib.hid (show Below w.heap.size w wb by rw [← hB]; exact h2.2.2)
      clear h2 hB
      have b0 : wb.cell? ⟨B, 0, none⟩ = some (.int .i64 p) := cell_at HZB.out
      have b1 : wb.cell? ⟨B, 1, none⟩ = some (.int .i64 0) := cell_at HZB.out
      have x0 : wb.cell? ⟨B + 1, 0, none⟩ = some (.int .i64 0) := cell_at HZX.out
      have x1 : wb.cell? ⟨B + 1, 1, none⟩ = some (.int .i64 0) := cell_at HZX.out
      have fb0 : wb.frozen? ⟨B, 0, none⟩ = false := free_at HZB.out
      have fb1 : wb.frozen? ⟨B, 1, none⟩ = false := free_at HZB.out
      have fx0 : wb.frozen? ⟨B + 1, 0, none⟩ = false := free_at HZX.out
      have fx1 : wb.frozen? ⟨B + 1, 1, none⟩ = false := free_at HZX.out
      go_wp2_with fail
      refine (HG.out wb).mono ?_
      rintro e w1 ⟨rfl, hb⟩
      have HZB := Lib.hid ((hb.block B (Array.getElem?_eq_some_iff.1 HZB.out).1).trans HZB.out)
      have HZX := Lib.hid ((hb.block (B + 1) (Array.getElem?_eq_some_iff.1 HZX.out).1).trans HZX.out)
      have HB := Lib.hid (HB.out.trans (hb.mono HB.out.size))
      clear hb b0 b1 x0 x1 fb0 fb1 fx0 fx1
      have b0 : w1.cell? ⟨B, 0, none⟩ = some (.int .i64 p) := cell_at HZB.out
      have b1 : w1.cell? ⟨B, 1, none⟩ = some (.int .i64 0) := cell_at HZB.out
      have x0 : w1.cell? ⟨B + 1, 0, none⟩ = some (.int .i64 0) := cell_at HZX.out
      have x1 : w1.cell? ⟨B + 1, 1, none⟩ = some (.int .i64 0) := cell_at HZX.out
      have fb0 : w1.frozen? ⟨B, 0, none⟩ = false := free_at HZB.out
      have fb1 : w1.frozen? ⟨B, 1, none⟩ = false := free_at HZB.out
      have fx0 : w1.frozen? ⟨B + 1, 0, none⟩ = false := free_at HZX.out
      have fx1 : w1.frozen? ⟨B + 1, 1, none⟩ = false := free_at HZX.out
      go_wp2_with fail
      refine bodyPost_ret (v := .tuple #[.agg #[.int .i64 ((p : Int)), .int .i64 (c')], .int .i64 ((0 : Nat) : Int)]) (by simp [results, Try.results50, go_sem, x0, x1]) rfl ⟨ret_z (congrArg Prod.fst HR.out) (by rw [HR.out]), ?_⟩
      repeat' first | exact HB.out | refine Below.drew ?_ | refine Below.setCell ?_ ?_ _ | (have := HN.out; dsimp only; omega)
  · have HR := Lib.hid (hr.trans (cntZ_no he))
    have hne1 : (er != 0) = true := by simpa using he
    clear hr
    go_enter Try.func50, Try.ntmps50
    go_upto_region 1 with fail
    have h2 := two_new w (.cells #[.int .i64 p, .int .i64 er] 76) (.cells #[.int .i64 0, .int .i64 0] 76)
    obtain ⟨B, hB⟩ : ∃ q, q = w.heap.size := ⟨_, rfl⟩
    rw [← hB] at h2 ⊢
    generalize (w.alloc (.cells #[.int .i64 p, .int .i64 er] 76)).alloc (.cells #[.int .i64 0, .int .i64 0] 76) = wb at *
    have HN := Lib.hid hB
    have HZB := Lib.hid h2.1
    have HZX := Lib.hid h2.2.1
    have HB := Lib.hid (show Below w.heap.size w wb by rw [← hB]; exact h2.2.2)
    clear h2 hB
    have b0 : wb.cell? ⟨B, 0, none⟩ = some (.int .i64 p) := cell_at HZB.out
    have b1 : wb.cell? ⟨B, 1, none⟩ = some (.int .i64 er) := cell_at HZB.out
    have x0 : wb.cell? ⟨B + 1, 0, none⟩ = some (.int .i64 0) := cell_at HZX.out
    have x1 : wb.cell? ⟨B + 1, 1, none⟩ = some (.int .i64 0) := cell_at HZX.out
    have fb0 : wb.frozen? ⟨B, 0, none⟩ = false := free_at HZB.out
    have fb1 : wb.frozen? ⟨B, 1, none⟩ = false := free_at HZB.out
    have fx0 : wb.frozen? ⟨B + 1, 0, none⟩ = false := free_at HZX.out
    have fx1 : wb.frozen? ⟨B + 1, 1, none⟩ = false := free_at HZX.out
    go_wp2_with fail
    refine bodyPost_ret (v := .tuple #[.agg #[.int .i64 ((p : Int)), .int .i64 (er)], .int .i64 ((0 : Nat) : Int)]) (by simp [results, Try.results50, go_sem, x0, x1]) rfl ⟨ret_z (congrArg Prod.fst HR.out) (by rw [HR.out]), ?_⟩
    repeat' first | exact HB.out | refine Below.drew ?_ | refine Below.setCell ?_ ?_ _ | (have := HN.out; dsimp only; omega)

set_option maxRecDepth 100000 in
set_option maxHeartbeats 4000000 in
theorem rtext_any (s : ByteArray) (z : Zst) (n : Nat) (w : World) (hs : s.size ≤ 9223372036854775000) (hz : z.at_ ≤ s.size) (hn : n ≤ 1000000) (hs2 : s.size ≤ 9000000000000000000) :
    Calls Try.prog 51 #[.string s, zV z, .int .i64 n] w (ZIs (textZ n s.data.toList z).1 (.string (textZ n s.data.toList z).2) w) := by
  obtain ⟨p, er⟩ := z
  dsimp only at hz
  unfold zV
  have hln := data_len s
  obtain ⟨r, hr⟩ : ∃ r, r = textZ n s.data.toList ⟨p, er⟩ := ⟨_, rfl⟩
  rw [← hr]
  dsimp only
  have hn0 : (0 : Int) ≤ (n : Int) := by omega
  have hn1 : (n : Int) ≤ 1000000 := by omega
  have hp0 : (0 : Int) ≤ (p : Int) := by omega
  have hp1 : (p : Int) ≤ (s.size : Int) := by omega
  have hsI : (s.size : Int) ≤ 9000000000000000000 := by omega
  by_cases he : er = 0
  · subst he
    by_cases h1 : s.size < p + n
    · have HR := Lib.hid (hr.trans (show _ = ((⟨p, 5⟩ : Zst), bL []) from textZ_short (by rw [hln]; exact h1)))
      have h1I : (s.size : Int) < (p : Int) + n := by omega
      clear hr h1 hln
      go_enter Try.func51, Try.ntmps51
      go_upto_region 1 with fail
      have h2 := two_new w (.cells #[.int .i64 p, .int .i64 0] 76) (.cells #[.int .i64 0, .int .i64 0] 76)
      obtain ⟨B, hB⟩ : ∃ q, q = w.heap.size := ⟨_, rfl⟩
      rw [← hB] at h2 ⊢
      generalize (w.alloc (.cells #[.int .i64 p, .int .i64 0] 76)).alloc (.cells #[.int .i64 0, .int .i64 0] 76) = wb at *
      have HN := Lib.hid hB
      have HZB := Lib.hid h2.1
      have HZX := Lib.hid h2.2.1
      have HB := Lib.hid (show Below w.heap.size w wb by rw [← hB]; exact h2.2.2)
      clear h2 hB
      have b0 : wb.cell? ⟨B, 0, none⟩ = some (.int .i64 p) := cell_at HZB.out
      have b1 : wb.cell? ⟨B, 1, none⟩ = some (.int .i64 0) := cell_at HZB.out
      have x0 : wb.cell? ⟨B + 1, 0, none⟩ = some (.int .i64 0) := cell_at HZX.out
      have x1 : wb.cell? ⟨B + 1, 1, none⟩ = some (.int .i64 0) := cell_at HZX.out
      have fb0 : wb.frozen? ⟨B, 0, none⟩ = false := free_at HZB.out
      have fb1 : wb.frozen? ⟨B, 1, none⟩ = false := free_at HZB.out
      have fx0 : wb.frozen? ⟨B + 1, 0, none⟩ = false := free_at HZX.out
      have fx1 : wb.frozen? ⟨B + 1, 1, none⟩ = false := free_at HZX.out
      go_wp2_with fail
      refine bodyPost_ret (v := .tuple #[.agg #[.int .i64 ((p : Int)), .int .i64 (5)], .string ⟨#[]⟩]) (by simp [results, Try.results51, go_sem, x0, x1]) rfl ⟨ret_z (congrArg Prod.fst HR.out) (by rw [HR.out]; rfl), ?_⟩
      repeat' first | exact HB.out | refine Below.drew ?_ | refine Below.setCell ?_ ?_ _ | (have := HN.out; dsimp only; omega)
    · have HR := Lib.hid (hr.trans (textZ_yes (by rw [hln]; exact h1) rfl))
      have h1I : (p : Int) + n ≤ (s.size : Int) := by omega
      have hsb : (p : Int) + n - n = p := by omega
      have HE := Lib.hid (extract_pt s p n)
      clear hr h1 hln
      go_enter Try.func51, Try.ntmps51
      go_upto_region 1 with fail
      have h2 := two_new w (.cells #[.int .i64 p, .int .i64 0] 76) (.cells #[.int .i64 0, .int .i64 0] 76)
      obtain ⟨B, hB⟩ : ∃ q, q = w.heap.size := ⟨_, rfl⟩
      rw [← hB] at h2 ⊢
      generalize (w.alloc (.cells #[.int .i64 p, .int .i64 0] 76)).alloc (.cells #[.int .i64 0, .int .i64 0] 76) = wb at *
      have HN := Lib.hid hB
      have HZB := Lib.hid h2.1
      have HZX := Lib.hid h2.2.1
      have HB := Lib.hid (show Below w.heap.size w wb by rw [← hB]; exact h2.2.2)
      clear h2 hB
      have b0 : wb.cell? ⟨B, 0, none⟩ = some (.int .i64 p) := cell_at HZB.out
      have b1 : wb.cell? ⟨B, 1, none⟩ = some (.int .i64 0) := cell_at HZB.out
      have x0 : wb.cell? ⟨B + 1, 0, none⟩ = some (.int .i64 0) := cell_at HZX.out
      have x1 : wb.cell? ⟨B + 1, 1, none⟩ = some (.int .i64 0) := cell_at HZX.out
      have fb0 : wb.frozen? ⟨B, 0, none⟩ = false := free_at HZB.out
      have fb1 : wb.frozen? ⟨B, 1, none⟩ = false := free_at HZB.out
      have fx0 : wb.frozen? ⟨B + 1, 0, none⟩ = false := free_at HZX.out
      have fx1 : wb.frozen? ⟨B + 1, 1, none⟩ = false := free_at HZX.out
      go_upto_region 7 with fail
      have HZB := Lib.hid (heap_setCell_at (j := 0) (u := .int .i64 ((p : Int) + n)) HZB.out)
      have HZX := Lib.hid ((Below.heap_setCell wb ⟨B, 0, none⟩ (.int .i64 ((p : Int) + n)) (B + 1) (by simp)).trans HZX.out)
      have HB := Lib.hid (HB.out.setCell (p := ⟨B, 0, none⟩) (by have := HN.out; dsimp only; omega) (.int .i64 ((p : Int) + n)))
      generalize wb.setCell ⟨B, 0, none⟩ (.int .i64 ((p : Int) + n)) = wc at *
      clear b0 b1 x0 x1 fb0 fb1 fx0 fx1
      have b0 : wc.cell? ⟨B, 0, none⟩ = some (.int .i64 ((p : Int) + n)) := cell_at HZB.out
      have b1 : wc.cell? ⟨B, 1, none⟩ = some (.int .i64 0) := cell_at HZB.out
      have x0 : wc.cell? ⟨B + 1, 0, none⟩ = some (.int .i64 0) := cell_at HZX.out
      have x1 : wc.cell? ⟨B + 1, 1, none⟩ = some (.int .i64 0) := cell_at HZX.out
      have fb0 : wc.frozen? ⟨B, 0, none⟩ = false := free_at HZB.out
      have fb1 : wc.frozen? ⟨B, 1, none⟩ = false := free_at HZB.out
      have fx0 : wc.frozen? ⟨B + 1, 0, none⟩ = false := free_at HZX.out
      have fx1 : wc.frozen? ⟨B + 1, 1, none⟩ = false := free_at HZX.out
      go_region
      go_wp2_with fail
      refine bodyPost_ret (v := .tuple #[.agg #[.int .i64 (((p + n : Nat) : Int)), .int .i64 (0)], .string (s.extract p (p + n))]) (by simp [results, Try.results51, go_sem, x0, x1]) rfl ⟨ret_z (congrArg Prod.fst HR.out) (by rw [HR.out, HE.out]), ?_⟩
      repeat' first | exact HB.out | refine Below.drew ?_ | refine Below.setCell ?_ ?_ _ | (have := HN.out; dsimp only; omega)
  · have HR := Lib.hid (hr.trans (textZ_no he))
    have hne1 : (er != 0) = true := by simpa using he
    clear hr hln
    go_enter Try.func51, Try.ntmps51
    go_upto_region 1 with fail
    have h2 := two_new w (.cells #[.int .i64 p, .int .i64 er] 76) (.cells #[.int .i64 0, .int .i64 0] 76)
    obtain ⟨B, hB⟩ : ∃ q, q = w.heap.size := ⟨_, rfl⟩
    rw [← hB] at h2 ⊢
    generalize (w.alloc (.cells #[.int .i64 p, .int .i64 er] 76)).alloc (.cells #[.int .i64 0, .int .i64 0] 76) = wb at *
    have HN := Lib.hid hB
    have HZB := Lib.hid h2.1
    have HZX := Lib.hid h2.2.1
    have HB := Lib.hid (show Below w.heap.size w wb by rw [← hB]; exact h2.2.2)
    clear h2 hB
    have b0 : wb.cell? ⟨B, 0, none⟩ = some (.int .i64 p) := cell_at HZB.out
    have b1 : wb.cell? ⟨B, 1, none⟩ = some (.int .i64 er) := cell_at HZB.out
    have x0 : wb.cell? ⟨B + 1, 0, none⟩ = some (.int .i64 0) := cell_at HZX.out
    have x1 : wb.cell? ⟨B + 1, 1, none⟩ = some (.int .i64 0) := cell_at HZX.out
    have fb0 : wb.frozen? ⟨B, 0, none⟩ = false := free_at HZB.out
    have fb1 : wb.frozen? ⟨B, 1, none⟩ = false := free_at HZB.out
    have fx0 : wb.frozen? ⟨B + 1, 0, none⟩ = false := free_at HZX.out
    have fx1 : wb.frozen? ⟨B + 1, 1, none⟩ = false := free_at HZX.out
    go_wp2_with fail
    refine bodyPost_ret (v := .tuple #[.agg #[.int .i64 ((p : Int)), .int .i64 (er)], .string ⟨#[]⟩]) (by simp [results, Try.results51, go_sem, x0, x1]) rfl ⟨ret_z (congrArg Prod.fst HR.out) (by rw [HR.out]; rfl), ?_⟩
    repeat' first | exact HB.out | refine Below.drew ?_ | refine Below.setCell ?_ ?_ _ | (have := HN.out; dsimp only; omega)
end Go.Proofs.Ytmcknjldimnaoaa
