/-
  The document's Build of claims. Conditions: the claims lie in memory, the numbers are ones of their kinds.
-/
import Derived.Test.YtmakghcoehkphaaGreatKn
import Derived.Test.YtmakghcoehkphaaGreatQ4ClaimBuilds
namespace Go.Proofs.YtmakghcoehkphaaGreat
open Go.RowKit Go.BigFrame
set_option linter.unusedVariables false
set_option linter.unusedSimpArgs false

def z4 : Obj := .cells #[.int .u32 0, .slice none 0 0, .slice none 0 0, .int .u32 0] 44 (0, 0)
def enC (cid : ByteArray) (ci : Nat) (cv : Int) (cs : ByteArray) (ch : Int) : Obj := .cells #[.string cid, .int .u32 ci, .int .i64 cv, .string cs, .int .i64 ch] 52 (0, 0)
/-- The call's boxes. -/
structure BB (w : World) (X N : Nat) (en : Obj) (wr : World) : Prop where
  bel : Below w.heap.size w wr
  low : w.heap.size ≤ X
  lt : X + 1 < N
  x : wr.heap[X]? = some en
  r : wr.heap[X + 1]? = some (.cells #[.int .u32 0, .slice none 0 0, .slice none 0 0, .int .u32 0] 44 (0, 0))
  n : wr.heap[N]? = some (.cells #[.int .u32 0, .slice none 0 0, .slice none 0 0, .int .u32 0] 44 (0, 0))
section
variable {w wr w' : World} {X N : Nat} {en : Obj}
theorem BB.next (h : BB w X N en wr) (hb : Below wr.heap.size wr w') : BB w X N en w' := ⟨h.bel.trans (hb.mono h.bel.size), h.low, h.lt, stay h.x hb, stay h.r hb, stay h.n hb⟩
theorem BB.up (h : BB w X N en wr) (hb : Below (N + 1) wr w') : BB w X N en w' :=
  ⟨h.bel.trans (hb.mono (by have := h.low; have := h.lt; omega)), h.low, h.lt, (hb.block _ (by have := h.lt; omega)).trans h.x, (hb.block _ (by have := h.lt; omega)).trans h.r, (hb.block _ (by omega)).trans h.n⟩
theorem BB.size (h : BB w X N en wr) : N + 1 ≤ wr.heap.size := lt_of h.n
end
set_option maxRecDepth 100000 in
set_option maxHeartbeats 8000000 in
theorem rclaimB_any (v : Value) (l : List PCl) (cid : ByteArray) (ci : Nat) (cv : Int) (cs : ByteArray) (ch : Int) (tag : Nat) (fee : Int) (w : World) (hv : SlAt rpCl w v l) (hlen : l.length ≤ 1000) (hc : cid.size ≤ maxLen) (hci : ci < 4294967296) (hcv : (Lit.int .i64 cv).wf = true) (ht : tag < 65536) :
    Calls Tryz.prog 11 #[v, enV cid ci cv cs ch, .int .u16 tag, .int .i64 fee] w (BuildIs (claimsOf l cid ci cv tag fee) w) := by
  obtain ⟨z, hzz⟩ : ∃ z, z = claimsOf l cid ci cv tag fee := ⟨_, rfl⟩
  rw [← hzz]
  have HSL := Lib.hid hv
  obtain ⟨a, c, rfl, hl1, hl2⟩ := hv.shape
  rw [maxLen_eq] at hl2
  obtain ⟨n, hn⟩ : ∃ n, n = l.length := ⟨_, rfl⟩
  rw [← hn] at hl1 HSL hlen ⊢
  have HN := Lib.hid hn
  have hz1 : z = _ := hzz
  unfold claimsOf at hz1
  rw [← hn, show cv :: l.map (·.val) = valsOf cv l from rfl] at hz1
  have HQ1 := Lib.hid hz1
  have HCV := Lib.hid hcv
  have HCI := Lib.hid hc
  have HSF := Lib.hid (sum_facts cv l)
  have HHI := Lib.hid (fun k => high_le (l.take k) 4294967295 (fun b hb => by
    obtain ⟨i, hi⟩ := List.mem_iff_getElem?.1 (List.mem_of_mem_take hb)
    obtain ⟨_, _, y, _, hy, hok, _⟩ := HSL.out.cl (by rw [HN.out]; exact (List.getElem?_eq_some_iff.1 hi).1)
    rw [hi] at hy
    obtain rfl := Option.some.inj hy
    have := hok.lock.height
    omega))
  unfold enV
  clear hv hn hzz hz1 hcv hc
  go_enter Tryz.func11, Tryz.ntmps11
  go_upto_region 1 with fail
  obtain ⟨X, hX⟩ : ∃ q, q = w.heap.size := ⟨_, rfl⟩
  have hnews := new2 w X hX (.cells #[.string cid, .int .u32 ci, .int .i64 cv, .string cs, .int .i64 ch] 52) (.cells #[.int .u32 0, .slice none 0 0, .slice none 0 0, .int .u32 0] 44)
  rw [← hX]
  generalize ((w.alloc (.cells #[.string cid, .int .u32 ci, .int .i64 cv, .string cs, .int .i64 ch] 52)).alloc (.cells #[.int .u32 0, .slice none 0 0, .slice none 0 0, .int .u32 0] 44)) = w0 at *
  obtain ⟨hz0, hz1, hal⟩ := hnews
  have hX1 : w.heap.size ≤ X := by omega
  have hX2 : w.heap.size ≤ X + 1 := by omega
  have hl1' := lt_of hz1
  have HB0 := Lib.hid hal
  have HZ0 := Lib.hid hz0
  have HZ1 := Lib.hid hz1
  clear hz0 hz1 hal hX
  go_upto_region 2 with fail
  have hz := heap_alloc_new w0 (.cells #[.int .u32 0, .slice none 0 0, .slice none 0 0, .int .u32 0] 44)
  have hal : Below w0.heap.size w0 (w0.alloc (.cells #[.int .u32 0, .slice none 0 0, .slice none 0 0, .int .u32 0] 44)) := (Below.refl _ _).alloc (Nat.le_refl _) _
  obtain ⟨N, hN⟩ : ∃ q, q = w0.heap.size := ⟨_, rfl⟩
  rw [← hN] at hz ⊢
  generalize w0.alloc (.cells #[.int .u32 0, .slice none 0 0, .slice none 0 0, .int .u32 0] 44) = w1 at *
  have HBB := Lib.hid (show BB w X N (enC cid ci cv cs ch) w1 from ⟨HB0.out.trans (hal.mono HB0.out.size), hX1, by omega, stay HZ0.out hal, stay HZ1.out hal, hz⟩)
  have hN1 : N + 1 ≤ w1.heap.size := lt_of hz
  clear hz hal hN HB0 HZ0 HZ1
  have n0 : w1.cell? ⟨N, 0, none⟩ = some (.int .u32 0) := cell_at HBB.out.n
  have n1 : w1.cell? ⟨N, 1, none⟩ = some (.slice none 0 0) := cell_at HBB.out.n
  have n2 : w1.cell? ⟨N, 2, none⟩ = some (.slice none 0 0) := cell_at HBB.out.n
  have n3 : w1.cell? ⟨N, 3, none⟩ = some (.int .u32 0) := cell_at HBB.out.n
  have r0 : w1.cell? ⟨X + 1, 0, none⟩ = some (.int .u32 0) := cell_at HBB.out.r
  have r1 : w1.cell? ⟨X + 1, 1, none⟩ = some (.slice none 0 0) := cell_at HBB.out.r
  have r2 : w1.cell? ⟨X + 1, 2, none⟩ = some (.slice none 0 0) := cell_at HBB.out.r
  have r3 : w1.cell? ⟨X + 1, 3, none⟩ = some (.int .u32 0) := cell_at HBB.out.r
  have f0 : w1.frozen? ⟨X + 1, 0, none⟩ = false := free_at HBB.out.r
  have f1 : w1.frozen? ⟨X + 1, 1, none⟩ = false := free_at HBB.out.r
  have f2 : w1.frozen? ⟨X + 1, 2, none⟩ = false := free_at HBB.out.r
  have f3 : w1.frozen? ⟨X + 1, 3, none⟩ = false := free_at HBB.out.r
  by_cases hn0 : n < 1
  · have hn0' : n = 0 := by omega
    have HZ := Lib.hid (HQ1.out.trans (if_pos (.inl hn0)))
    subst hn0'
    go_wp2_with fail
    exact bodyPost_ret (v := .tuple #[.agg #[.int .u32 0, .slice none 0 0, .slice none 0 0, .int .u32 0], .int .i64 6]) (by simp [results, Tryz.results11, go_sem, r0, r1, r2, r3]) rfl (build_is HZ.out (tx_zero _ _) (set4_zero HBB.out.bel hX2 _ _ _ _))
  have hnn : ¬ n = 0 := by omega
  by_cases hn2 : 32 < n
  · have HZ := Lib.hid (HQ1.out.trans (if_pos (.inr hn2)))
    have hn2' : (32 : Int) < (n : Int) := by omega
    go_wp2_with fail
    exact bodyPost_ret (v := .tuple #[.agg #[.int .u32 0, .slice none 0 0, .slice none 0 0, .int .u32 0], .int .i64 6]) (by simp [results, Tryz.results11, go_sem, r0, r1, r2, r3]) rfl (build_is HZ.out (tx_zero _ _) (set4_zero HBB.out.bel hX2 _ _ _ _))
  have hn2' : ¬ (32 : Int) < (n : Int) := by omega
  have hn32 : n ≤ 32 := by omega
  have HQ2 := Lib.hid (HQ1.out.trans (if_neg (by omega)))
  clear HQ1
  by_cases ht0 : tag = 0
  · have HZ := Lib.hid (HQ2.out.trans (if_pos (.inl ht0)))
    subst ht0
    go_wp2_with fail
    exact bodyPost_ret (v := .tuple #[.agg #[.int .u32 0, .slice none 0 0, .slice none 0 0, .int .u32 0], .int .i64 2]) (by simp [results, Tryz.results11, go_sem, r0, r1, r2, r3]) rfl (build_is HZ.out (tx_zero _ _) (set4_zero HBB.out.bel hX2 _ _ _ _))
  have ht2 : ((tag : Int) == 0) = false := by simpa using ht0
  have ht3 : ¬ (tag : Int) = 0 := by omega
  have x2 : w1.cell? ⟨X, 2, none⟩ = some (.int .i64 cv) := cell_at HBB.out.x
  go_upto_region 7 with fail
  have hrow := World.ownsRow_lit (base := N + 1) (e := 3) (size := 1) w1 #[.int .i64 cv] 1 HBB.out.size (by decide) rfl
  have hal : Below w1.heap.size w1 (w1.alloc (.cells #[.int .i64 cv] 3)) := (Below.refl _ _).alloc (Nat.le_refl _) _
  have HROW := Lib.hid hrow
  have HBB := Lib.hid (HBB.out.next hal)
  generalize w1.alloc (.cells #[.int .i64 cv] 3) = w2 at *
  generalize w1.heap.size = Y at *
  clear hrow hal x2 hN1 n0 n1 n2 n3 r0 r1 r2 r3 f0 f1 f2 f3
  go_wp2_with fail
  go_loopg [11, 12] n (fun g r i wr => ∃ (k : Nat) (r0 : Value), r = r0 ∧ g = n - k ∧ k ≤ n ∧ i = .int .i64 k ∧ BB w X N (enC cid ci cv cs ch) wr ∧ wr.ownsRow (N + 1) 3 1 r0 (k + 1) (intCells (valsOf cv (l.take k))) ∧ ((l.take k).any fun a => !namedC a) = false)
  case atStart => exact ⟨0, _, rfl, rfl, by omega, rfl, HBB.out, HROW.out, rfl⟩
  case round =>
    clear HBB HROW
    rename World => wo
    obtain ⟨k, r0, hr0, hgk, hk, rfl, hbb, hown, hnm⟩ := hrel
    obtain rfl := hr0.symm
    have HGK := Lib.hid hgk
    have HBB := Lib.hid hbb
    have HOWN := Lib.hid hown
    have HNM := Lib.hid hnm
    clear hgk hbb hown hnm
    by_cases hlt : k < n
    · obtain ⟨b, o, x, rfl, hx, hok, hcl⟩ := (HSL.out.below HBB.out.bel).cl hlt
      obtain ⟨d0, d1, d2, d3, d4, d5, d6, d7⟩ := hcl
      have HNX := Lib.hid (show valsOf cv (l.take (k + 1)) = valsOf cv (l.take k) ++ [x.val] by rw [← valsOf_snoc, List.take_add_one, hx]; rfl)
      have HAN := Lib.hid (show ((l.take (k + 1)).any fun a => !namedC a) = !namedC x by rw [take_snoc hx, List.any_append, HNM.out]; simp)
      have HBAD := Lib.hid (show namedC x = false → (l.any fun a => !namedC a) = true from fun h => List.any_eq_true.2 ⟨x, List.mem_of_getElem? hx, by rw [h]; rfl⟩)
      have HNC := Lib.hid (show namedC x = ((decide (0 ≤ x.br) && decide (x.br ≤ 2)) && decide (x.lock.height ≤ 1000000)) from rfl)
      clear hx hok
      have n0 : wo.cell? ⟨N, 0, none⟩ = some (.int .u32 0) := cell_at HBB.out.n
      have n1 : wo.cell? ⟨N, 1, none⟩ = some (.slice none 0 0) := cell_at HBB.out.n
      have n2 : wo.cell? ⟨N, 2, none⟩ = some (.slice none 0 0) := cell_at HBB.out.n
      have n3 : wo.cell? ⟨N, 3, none⟩ = some (.int .u32 0) := cell_at HBB.out.n
      have r0 : wo.cell? ⟨X + 1, 0, none⟩ = some (.int .u32 0) := cell_at HBB.out.r
      have r1 : wo.cell? ⟨X + 1, 1, none⟩ = some (.slice none 0 0) := cell_at HBB.out.r
      have r2 : wo.cell? ⟨X + 1, 2, none⟩ = some (.slice none 0 0) := cell_at HBB.out.r
      have r3 : wo.cell? ⟨X + 1, 3, none⟩ = some (.int .u32 0) := cell_at HBB.out.r
      have f0 : wo.frozen? ⟨X + 1, 0, none⟩ = false := free_at HBB.out.r
      have f1 : wo.frozen? ⟨X + 1, 1, none⟩ = false := free_at HBB.out.r
      have f2 : wo.frozen? ⟨X + 1, 2, none⟩ = false := free_at HBB.out.r
      have f3 : wo.frozen? ⟨X + 1, 3, none⟩ = false := free_at HBB.out.r
      by_cases h1 : x.br < 0
      · have HZ := Lib.hid (HQ2.out.trans (if_pos (.inr (HBAD.out (by rw [HNC.out, decide_eq_false (show ¬ 0 ≤ x.br by omega)]; rfl)))))
        go_wp2_with fail
        exact bodyPost_ret (v := .tuple #[.agg #[.int .u32 0, .slice none 0 0, .slice none 0 0, .int .u32 0], .int .i64 2]) (by simp [results, Tryz.results11, go_sem, r0, r1, r2, r3]) rfl (build_is HZ.out (tx_zero _ _) (set4_zero HBB.out.bel hX2 _ _ _ _))
      by_cases h2 : 2 < x.br
      · have HZ := Lib.hid (HQ2.out.trans (if_pos (.inr (HBAD.out (by rw [HNC.out, decide_eq_false (show ¬ x.br ≤ 2 by omega)]; simp)))))
        go_wp2_with fail
        exact bodyPost_ret (v := .tuple #[.agg #[.int .u32 0, .slice none 0 0, .slice none 0 0, .int .u32 0], .int .i64 2]) (by simp [results, Tryz.results11, go_sem, r0, r1, r2, r3]) rfl (build_is HZ.out (tx_zero _ _) (set4_zero HBB.out.bel hX2 _ _ _ _))
      by_cases h3 : 1000000 < x.lock.height
      · have HZ := Lib.hid (HQ2.out.trans (if_pos (.inr (HBAD.out (by rw [HNC.out, decide_eq_false (show ¬ x.lock.height ≤ 1000000 by omega)]; simp)))))
        go_wp2_with fail
        exact bodyPost_ret (v := .tuple #[.agg #[.int .u32 0, .slice none 0 0, .slice none 0 0, .int .u32 0], .int .i64 2]) (by simp [results, Tryz.results11, go_sem, r0, r1, r2, r3]) rfl (build_is HZ.out (tx_zero _ _) (set4_zero HBB.out.bel hX2 _ _ _ _))
      have HNM2 := Lib.hid (show ((l.take (k + 1)).any fun a => !namedC a) = false by rw [HAN.out, HNC.out, decide_eq_true (show 0 ≤ x.br by omega), decide_eq_true (show x.br ≤ 2 by omega), decide_eq_true (show x.lock.height ≤ 1000000 by omega)]; rfl)
      obtain ⟨a6, c6, rfl, -, -⟩ := ownsRow_shape HOWN.out
      obtain ⟨i0, hi, hz0, hz1, hz2⟩ := info_parts info_int
      obtain ⟨a3, c3, w3, hrun, hown3, hb3, -⟩ := append_el (P := Tryz.prog) Tryz.underlying36 hi hz0 hz1 hz2 rfl HOWN.out #[.int .i64 x.val] rfl (by simp [Value.oneCell']) (by rw [maxLen_eq]; omega) (by omega) HBB.out.size (ty := 36)
      have HR := Lib.hid hrun
      have HO3 := Lib.hid hown3
      have HB3 := Lib.hid (HBB.out.up hb3)
      clear hi hz0 hz1 hz2 i0 hrun hown3 hb3 HBB n0 n1 n2 n3 r0 r1 r2 r3 f0 f1 f2 f3
      go_wp2_with (at_builtin; refine wpList_append_run rfl (.tmp 70) (.tmp 76) 36 36 rfl rfl rfl HR.out ?_)
      go_roundg (n - (k + 1))
      case measure => have := HGK.out; omega
      case rel =>
        refine ⟨k + 1, _, rfl, rfl, by omega, by go_num, HB3.out, ?_, HNM2.out⟩
        rw [HNX.out]
        have := HO3.out
        simpa [intCells] using this
    · obtain rfl : n = k := by omega
      have htk : (l.take n) = l := List.take_of_length_le (by rw [HN.out]; exact Nat.le_refl _)
      have hsl : SlAt (rpInt .i64) wo r0 (valsOf cv l) := SlAt.of_ints (by have := HOWN.out; rw [htk] at this; exact this) (by rw [valsOf_len, HN.out]) (fun x hx => by
        rcases List.mem_cons.1 hx with rfl | hx
        · exact HCV.out
        · obtain ⟨y, hy, rfl⟩ := List.mem_map.1 hx
          obtain ⟨i, hi⟩ := List.mem_iff_getElem?.1 hy
          obtain ⟨_, _, y', _, hy', hok, _⟩ := HSL.out.cl (by rw [HN.out]; exact (List.getElem?_eq_some_iff.1 hi).1)
          rw [hi] at hy'
          obtain rfl := Option.some.inj hy'
          exact wf_of hok.val)
      rw [htk] at HNM
      have HQ3 := Lib.hid (HQ2.out.trans (if_neg (by rintro (h | h); exact ht0 h; rw [HNM.out] at h; cases h)))
      have HS := Lib.hid (rasum_any _ _ wo hsl)
      have HBR := Lib.hid (namedC_br HNM.out)
      unfold SumAIs at HS
      obtain ⟨su, hsu⟩ : ∃ su, su = sumA 0 (valsOf cv l) := ⟨_, rfl⟩
      rw [← hsu] at HS HQ3 HSF
      obtain ⟨s1, s2⟩ := su
      dsimp only at *
      obtain ⟨a6, c6, rfl, -, -⟩ := ownsRow_shape HOWN.out
      clear hsl htk hsu HQ2 HOWN HNM
      have n0 : wo.cell? ⟨N, 0, none⟩ = some (.int .u32 0) := cell_at HBB.out.n
      have n1 : wo.cell? ⟨N, 1, none⟩ = some (.slice none 0 0) := cell_at HBB.out.n
      have n2 : wo.cell? ⟨N, 2, none⟩ = some (.slice none 0 0) := cell_at HBB.out.n
      have n3 : wo.cell? ⟨N, 3, none⟩ = some (.int .u32 0) := cell_at HBB.out.n
      have r0 : wo.cell? ⟨X + 1, 0, none⟩ = some (.int .u32 0) := cell_at HBB.out.r
      have r1 : wo.cell? ⟨X + 1, 1, none⟩ = some (.slice none 0 0) := cell_at HBB.out.r
      have r2 : wo.cell? ⟨X + 1, 2, none⟩ = some (.slice none 0 0) := cell_at HBB.out.r
      have r3 : wo.cell? ⟨X + 1, 3, none⟩ = some (.int .u32 0) := cell_at HBB.out.r
      have f0 : wo.frozen? ⟨X + 1, 0, none⟩ = false := free_at HBB.out.r
      have f1 : wo.frozen? ⟨X + 1, 1, none⟩ = false := free_at HBB.out.r
      have f2 : wo.frozen? ⟨X + 1, 2, none⟩ = false := free_at HBB.out.r
      have f3 : wo.frozen? ⟨X + 1, 3, none⟩ = false := free_at HBB.out.r
      go_wp2_with fail
      refine HS.out.mono ?_
      rintro e w' ⟨rfl, rfl⟩
      have HG := Lib.hid (rgood_any fee wo)
      by_cases hs2 : s2 = 0
      rotate_left
      · have HZ := Lib.hid (HQ3.out.trans (if_pos (.inl hs2)))
        have hne : (s2 == 0) = false := by simpa using hs2
        go_wp2_with fail
        refine HG.out.mono ?_
        rintro e w' ⟨rfl, rfl⟩
        go_wp2_with fail
        exact bodyPost_ret (v := .tuple #[.agg #[.int .u32 0, .slice none 0 0, .slice none 0 0, .int .u32 0], .int .i64 3]) (by simp [results, Tryz.results11, go_sem, r0, r1, r2, r3]) rfl (build_is HZ.out (tx_zero _ _) (set4_zero HBB.out.bel hX2 _ _ _ _))
      have hs4 := HSF.out hs2
      subst hs2
      cases hg : goodA fee
      · rw [hg] at HG
        have HZ := Lib.hid (HQ3.out.trans (if_pos (.inr hg)))
        clear hg
        go_wp2_with fail
        refine HG.out.mono ?_
        rintro e w' ⟨rfl, rfl⟩
        go_wp2_with fail
        exact bodyPost_ret (v := .tuple #[.agg #[.int .u32 0, .slice none 0 0, .slice none 0 0, .int .u32 0], .int .i64 3]) (by simp [results, Tryz.results11, go_sem, r0, r1, r2, r3]) rfl (build_is HZ.out (tx_zero _ _) (set4_zero HBB.out.bel hX2 _ _ _ _))
      have hfe := (goodA_iff _).1 hg
      rw [hg] at HG
      have HQ4 := Lib.hid (HQ3.out.trans (if_neg (by rw [hg]; simp)))
      clear hg HQ3
      go_wp2_with fail
      refine HG.out.mono ?_
      rintro e w' ⟨rfl, rfl⟩
      by_cases hlt2 : s1 < fee
      · have HZ := Lib.hid (HQ4.out.trans (if_pos hlt2))
        go_wp2_with fail
        exact bodyPost_ret (v := .tuple #[.agg #[.int .u32 0, .slice none 0 0, .slice none 0 0, .int .u32 0], .int .i64 12]) (by simp [results, Tryz.results11, go_sem, r0, r1, r2, r3]) rfl (build_is HZ.out (tx_zero _ _) (set4_zero HBB.out.bel hX2 _ _ _ _))
      have hz5 : z = _ := HQ4.out.trans (if_neg hlt2)
      obtain ⟨V, hV⟩ : ∃ V, V = s1 - fee := ⟨_, rfl⟩
      rw [← hV] at hz5
      have HQ5 := Lib.hid hz5
      have hV2 : 0 ≤ V ∧ V ≤ 2100000000000000 := by omega
      have HV := Lib.hid hV
      clear hz5 hV HQ4 HS HG HSF n0 n1 n2 n3 r0 r1 r2 r3 f0 f1 f2 f3
      go_upto_region 20 with fail
      have hz := heap_alloc_new wo (.cells #[.int .u32 2, .slice none 0 0, .slice none 0 0, .int .u32 0] 44)
      have hal : Below wo.heap.size wo (wo.alloc (.cells #[.int .u32 2, .slice none 0 0, .slice none 0 0, .int .u32 0] 44)) := (Below.refl _ _).alloc (Nat.le_refl _) _
      obtain ⟨T, hT⟩ : ∃ q, q = wo.heap.size := ⟨_, rfl⟩
      rw [← hT] at hz ⊢
      generalize wo.alloc (.cells #[.int .u32 2, .slice none 0 0, .slice none 0 0, .int .u32 0] 44) = wt at *
      have hNT : N < T := by have := HBB.out.size; omega
      have HBB := Lib.hid (HBB.out.next hal)
      have HMI := Lib.hid (show MI w T 0 (.slice none 0 0) (.slice none 0 0) [] wt from ⟨HBB.out.bel, by have := HBB.out.low; have := HBB.out.lt; omega, hz, insOwn_nil _ _⟩)
      clear hz hal hT
      have HC0 := Lib.hid HBB.out.low
      have HC1 := Lib.hid HBB.out.lt
      go_wp2_with fail
      go_loopg [17] n (fun g i wr => ∃ (k : Nat) (ia : Option Addr) (ic : Nat) (ps : List (PIn × Value)), g = n - k ∧ k ≤ n ∧ i = .int .i64 k ∧ BB w X N (enC cid ci cv cs ch) wr ∧ MI w T (highOf (l.take k)) (.slice ia k ic) (.slice none 0 0) ps wr ∧ ps.map (·.1) = insOf tag (l.take k) ∧ ps.length = k)
      case atStart => exact ⟨0, none, 0, [], rfl, by omega, rfl, HBB.out, HMI.out, rfl, rfl⟩
      case round =>
        clear HBB HMI
        rename World => wq
        obtain ⟨k, ia, ic, ps, hgk, hk, rfl, hbb, hmi, hps, hpl⟩ := hrel
        have HGK := Lib.hid hgk
        have HBB := Lib.hid hbb
        have HMI := Lib.hid hmi
        have HPS := Lib.hid hps
        have HPL := Lib.hid hpl
        clear hgk hbb hmi hps hpl
        by_cases hlt : k < n
        · obtain ⟨b, o, x, rfl, hx, hok, hcl⟩ := HSL.out.cl hlt
          obtain ⟨bn, hbn⟩ : ∃ bn : Nat, x.br = bn := ⟨x.br.toNat, by have := HBR.out x (List.mem_of_getElem? hx); omega⟩
          have hbn3 : bn < 3 := by have := HBR.out x (List.mem_of_getElem? hx); omega
          have HOI := Lib.hid (insOf_ok (tag := tag) hok bn)
          have HIN := Lib.hid (show insOf tag (l.take (k + 1)) = insOf tag (l.take k) ++ [⟨x.id, x.idx, seqOf x.lock.delay, [signW bn tag]⟩] by
            rw [List.take_add_one, hx]
            show insOf tag (l.take k ++ [x]) = _
            rw [insOf_snoc, show x.br.toNat = bn by omega])
          have HHG := Lib.hid (show highOf (l.take (k + 1)) = max (highOf (l.take k)) x.lock.height by
            rw [List.take_add_one, hx]
            exact high_snoc _ _)
          have hdl := hok.lock.delay
          have HCL := Lib.hid hcl
          have HBN := Lib.hid hbn
          clear hx hok hbn hcl
          have d0 := (HCL.out.below HBB.out.bel).c0
          have d1 := (HCL.out.below HBB.out.bel).c1
          go_upto_region 24 with fail
          have hz := heap_alloc_new wq (.cells #[.string x.id, .int .u32 x.idx, .int .u32 4294967293, .slice none 0 0] 76)
          have hal : Below wq.heap.size wq (wq.alloc (.cells #[.string x.id, .int .u32 x.idx, .int .u32 4294967293, .slice none 0 0] 76)) := (Below.refl _ _).alloc (Nat.le_refl _) _
          obtain ⟨C, hC⟩ : ∃ q, q = wq.heap.size := ⟨_, rfl⟩
          rw [← hC] at hz ⊢
          generalize wq.alloc (.cells #[.string x.id, .int .u32 x.idx, .int .u32 4294967293, .slice none 0 0] 76) = wc at *
          have hTC : T < C := by have := HMI.out.lt; omega
          have HNH := Lib.hid (show ∀ b, InsHas (.slice ia k ic) ps b → b < C from fun b hb => by have := (HMI.out.ins.lt hb).2; omega)
          have HBB := Lib.hid (HBB.out.next hal)
          have HMI := Lib.hid (HMI.out.below hal)
          have HCB := Lib.hid hz
          have d5 := (HCL.out.below HBB.out.bel).c5
          have e2 : wc.cell? ⟨C, 2, none⟩ = some (.int .u32 4294967293) := cell_at hz
          have g2 : wc.frozen? ⟨C, 2, none⟩ = false := free_at hz
          have hNC : N < C := by omega
          have hwC : w.heap.size ≤ C := by have := HC0.out; have := HC1.out; omega
          clear hz hal hC d0 d1
          go_upto_if 115 with fail
          go_cut [] (fun wx => (∀ b, b ≠ C → wx.heap[b]? = wc.heap[b]?) ∧ wx.heap[C]? = some (.cells #[.string x.id, .int .u32 x.idx, .int .u32 (seqOf x.lock.delay), .slice none 0 0] 76 (0, 0)) ∧ Below C wc wx)
          case first =>
            by_cases hd : 0 < x.lock.delay
            · have HS := Lib.hid (show seqOf x.lock.delay = x.lock.delay from if_pos hd)
              go_wp2_with fail
              go_meet
              rw [HS.out]
              exact ⟨fun b hb => Below.heap_setCell _ _ _ _ hb, heap_setCell_at HCB.out, (Below.refl _ _).setCell (p := ⟨C, 2, none⟩) (Nat.le_refl _) _⟩
            · have HS := Lib.hid (show seqOf x.lock.delay = 4294967293 from if_neg hd)
              go_wp2_with fail
              go_meet
              rw [HS.out]
              exact ⟨fun b hb => rfl, HCB.out, Below.refl _ _⟩
          case rest =>
            rename World => wd
            obtain ⟨hO, hCd, hbl⟩ := hcut
            have HBB := Lib.hid (HBB.out.up (hbl.mono (by omega)))
            have HMI := Lib.hid (show MI w T (highOf (l.take k)) (.slice ia k ic) (.slice none 0 0) ps wd from ⟨HBB.out.bel, HMI.out.low, (hO T (by omega)).trans HMI.out.box, HMI.out.ins.kept fun b hb => hO b (by have := HNH.out b hb; omega)⟩)
            have HCB := Lib.hid hCd
            have hCl := lt_of hCd
            have d3 := (HCL.out.below HBB.out.bel).c3
            rw [HBN.out] at d3
            clear hO hCd hbl d5 e2 g2
            go_wp2_with fail
            refine (rsign_new bn tag hbn3 ht wd).mono ?_
            rintro e we ⟨v1, rfl, p1, rfl, hp1, g1, hb⟩
            have HBB := Lib.hid (HBB.out.next hb)
            have HMI := Lib.hid (HMI.out.below hb)
            have hCe := stay HCB.out hb
            have a3 : we.cell? ⟨C, 3, none⟩ = some (.slice none 0 0) := cell_at hCe
            have b3 : we.frozen? ⟨C, 3, none⟩ = false := free_at hCe
            have HCB := Lib.hid hCe
            have HG1 := Lib.hid g1
            have hCe2 := lt_of hCe
            clear g1 hb d3 hCe
            go_upto_region 27 with fail
            have hp1C : C < p1 := by omega
            have hCf := heap_setCell_at (j := 3) (u := .slice (some ⟨p1, 0, none⟩) 1 1) HCB.out
            have hG := (Below.heap_setCell we ⟨C, 3, none⟩ (.slice (some ⟨p1, 0, none⟩) 1 1) p1 (by dsimp only; omega)).trans HG1.out
            have hbf : Below C we (we.setCell ⟨C, 3, none⟩ (.slice (some ⟨p1, 0, none⟩) 1 1)) := (Below.refl _ _).setCell (p := ⟨C, 3, none⟩) (Nat.le_refl _) _
            have HMI := Lib.hid (show MI w T (highOf (l.take k)) (.slice ia k ic) (.slice none 0 0) ps (we.setCell ⟨C, 3, none⟩ (.slice (some ⟨p1, 0, none⟩) 1 1)) from ⟨HMI.out.bel.setCell (p := ⟨C, 3, none⟩) hwC _, HMI.out.low, (Below.heap_setCell _ _ _ _ (by dsimp only; omega)).trans HMI.out.box, HMI.out.ins.kept fun b hb => Below.heap_setCell _ _ _ _ (by have := HNH.out b hb; dsimp only; omega)⟩)
            have HBB := Lib.hid (HBB.out.up (hbf.mono (by omega)))
            generalize we.setCell ⟨C, 3, none⟩ (.slice (some ⟨p1, 0, none⟩) 1 1) = wf at *
            have a0 : wf.cell? ⟨C, 0, none⟩ = some (.string x.id) := cell_at hCf
            have a1 : wf.cell? ⟨C, 1, none⟩ = some (.int .u32 x.idx) := cell_at hCf
            have a2 : wf.cell? ⟨C, 2, none⟩ = some (.int .u32 (seqOf x.lock.delay)) := cell_at hCf
            have a3 : wf.cell? ⟨C, 3, none⟩ = some (.slice (some ⟨p1, 0, none⟩) 1 1) := cell_at hCf
            have t1 : wf.cell? ⟨T, 1, none⟩ = some (.slice ia k ic) := cell_at HMI.out.box
            have hal : Below wf.heap.size wf (wf.alloc (.cells #[.string x.id, .int .u32 x.idx, .int .u32 (seqOf x.lock.delay), .slice (some ⟨p1, 0, none⟩) 1 1] 76)) := (Below.refl _ _).alloc (Nat.le_refl _) _
            have hsz := hal.size
            have hTf := HMI.out.lt
            have hNCf : ∀ b, InsHas (.slice ia k ic) ps b → b < C := HNH.out
            obtain ⟨a8, c8, w8, hrun, hbox, hkeep, hm8⟩ := (HMI.out.below hal).app HPL.out (by omega) x.id x.idx (seqOf x.lock.delay) (signW bn tag) (N := C) hNCf hTC (by omega) (heap_alloc_new wf _) ((Below.heap_alloc _ _ _ (lt_of hG)).trans hG) HOI.out
            have u1 : w8.cell? ⟨T, 1, none⟩ = some (.slice ia k ic) := cell_at hbox
            have f1 : w8.frozen? ⟨T, 1, none⟩ = false := free_at hbox
            have hlow : ∀ b, b ≤ N → (w8.setCell ⟨T, 1, none⟩ (.slice a8 (k + 1) c8)).heap[b]? = wf.heap[b]? := fun b hb => (Below.heap_setCell _ _ _ _ (show b ≠ T by omega)).trans ((hkeep b (by omega) (fun e => by have := (HMI.out.ins.row.lt b e).1; omega)).trans (hal.block b (by omega)))
            have HB8 := Lib.hid (show BB w X N (enC cid ci cv cs ch) (w8.setCell ⟨T, 1, none⟩ (.slice a8 (k + 1) c8)) from ⟨hm8.bel, HBB.out.low, HBB.out.lt, (hlow X (by have := HC1.out; omega)).trans HBB.out.x, (hlow (X + 1) (by have := HC1.out; omega)).trans HBB.out.r, (hlow N (Nat.le_refl _)).trans HBB.out.n⟩)
            have HM8 := Lib.hid hm8
            have HR := Lib.hid hrun
            clear hrun hbox hkeep hm8 hlow hal hG hCf hbf HBB HMI HG1 HCB b3 hNCf
            go_upto_region 28 with (at_builtin; refine wpList_append_run rfl (.tmp 133) (.tmp 135) 41 41 rfl rfl rfl HR.out ?_)
            generalize w8.setCell ⟨T, 1, none⟩ (.slice a8 (k + 1) c8) = w9 at *
            have d6 := (HCL.out.below HB8.out.bel).c6
            have t3 : w9.cell? ⟨T, 3, none⟩ = some (.int .u32 (highOf (l.take k))) := cell_at HM8.out.box
            have f3 : w9.frozen? ⟨T, 3, none⟩ = false := free_at HM8.out.box
            clear u1 f1 t1 a0 a1 a2 a3 HR
            by_cases hhi : highOf (l.take k) < x.lock.height
            · have HH2 := Lib.hid (HHG.out.trans (Nat.max_eq_right (Nat.le_of_lt hhi)))
              have HB9 := Lib.hid (show BB w X N (enC cid ci cv cs ch) (w9.setCell ⟨T, 3, none⟩ (.int .u32 x.lock.height)) from HB8.out.up ((Below.refl _ _).setCell (p := ⟨T, 3, none⟩) (by dsimp only; omega) _))
              have HM9 := Lib.hid (HM8.out.set (j := 3) (u := .int .u32 x.lock.height) (hi' := x.lock.height) (vo' := .slice none 0 0) rfl)
              generalize highOf (l.take k) = h0 at *
              have hh2 : decide (h0 < x.lock.height) = true := decide_eq_true hhi
              go_region
              all_goals
                go_wp2_with fail
                go_roundg (n - (k + 1))
                case measure => have := HGK.out; omega
                case rel => exact ⟨k + 1, a8, c8, ps ++ [((⟨x.id, x.idx, seqOf x.lock.delay, [signW bn tag]⟩ : PIn), (.slice (some ⟨p1, 0, none⟩) 1 1 : Value))], rfl, by omega, by go_num, HB9.out.next (drew_bel _), by rw [HH2.out]; exact HM9.out.below (drew_bel _), by rw [List.map_append, HPS.out, HIN.out]; rfl, by rw [List.length_append, HPL.out]; rfl⟩
            · have HH2 := Lib.hid (HHG.out.trans (Nat.max_eq_left (by omega)))
              generalize highOf (l.take k) = h0 at *
              have hh2 : decide (h0 < x.lock.height) = false := decide_eq_false hhi
              go_region
              all_goals
                go_wp2_with fail
                go_roundg (n - (k + 1))
                case measure => have := HGK.out; omega
                case rel => exact ⟨k + 1, a8, c8, ps ++ [((⟨x.id, x.idx, seqOf x.lock.delay, [signW bn tag]⟩ : PIn), (.slice (some ⟨p1, 0, none⟩) 1 1 : Value))], rfl, by omega, by go_num, HB8.out.next (drew_bel _), by rw [HH2.out]; exact HM8.out.below (drew_bel _), by rw [List.map_append, HPS.out, HIN.out]; rfl, by rw [List.length_append, HPL.out]; rfl⟩
        · obtain rfl : n = k := by omega
          have htk : (l.take n) = l := List.take_of_length_le (by rw [HN.out]; exact Nat.le_refl _)
          have HH := Lib.hid (HHI.out n)
          rw [htk] at HMI HPS HH
          have HCN := Lib.hid (show OkIn ⟨cid, ci, 4294967293, [signW 0 tag]⟩ from ⟨HCI.out, hci, by show (4294967293 : Nat) < _; omega, fun s hs => by rw [List.mem_singleton.1 hs, signW_size]; decide⟩)
          have x0 : wq.cell? ⟨X, 0, none⟩ = some (.string cid) := cell_at HBB.out.x
          have x1 : wq.cell? ⟨X, 1, none⟩ = some (.int .u32 ci) := cell_at HBB.out.x
          clear htk
          go_upto_region 31 with fail
          have hz := heap_alloc_new wq (.cells #[.string cid, .int .u32 ci, .int .u32 4294967293, .slice none 0 0] 76)
          have hal : Below wq.heap.size wq (wq.alloc (.cells #[.string cid, .int .u32 ci, .int .u32 4294967293, .slice none 0 0] 76)) := (Below.refl _ _).alloc (Nat.le_refl _) _
          obtain ⟨C, hC⟩ : ∃ q, q = wq.heap.size := ⟨_, rfl⟩
          rw [← hC] at hz ⊢
          generalize wq.alloc (.cells #[.string cid, .int .u32 ci, .int .u32 4294967293, .slice none 0 0] 76) = wc at *
          have hTC : T < C := by have := HMI.out.lt; omega
          have HNH := Lib.hid (show ∀ b, InsHas (.slice ia n ic) ps b → b < C from fun b hb => by have := (HMI.out.ins.lt hb).2; omega)
          have HBB := Lib.hid (HBB.out.next hal)
          have HMI := Lib.hid (HMI.out.below hal)
          have HCB := Lib.hid hz
          have hNC : N < C := by omega
          have hwC : w.heap.size ≤ C := by have := HC0.out; have := HC1.out; omega
          clear hz hal hC x0 x1
          go_wp2_with fail
          refine (rsign_new 0 tag (by omega) ht wc).mono ?_
          rintro e we ⟨v1, rfl, p1, rfl, hp1, g1, hb⟩
          have hCl := lt_of HCB.out
          have HBB := Lib.hid (HBB.out.next hb)
          have HMI := Lib.hid (HMI.out.below hb)
          have hCe := stay HCB.out hb
          have a3 : we.cell? ⟨C, 3, none⟩ = some (.slice none 0 0) := cell_at hCe
          have b3 : we.frozen? ⟨C, 3, none⟩ = false := free_at hCe
          have HCB := Lib.hid hCe
          have HG1 := Lib.hid g1
          have hCe2 := lt_of hCe
          clear g1 hb hCe
          go_upto_region 32 with fail
          have hp1C : C < p1 := by omega
          have hCf := heap_setCell_at (j := 3) (u := .slice (some ⟨p1, 0, none⟩) 1 1) HCB.out
          have hG := (Below.heap_setCell we ⟨C, 3, none⟩ (.slice (some ⟨p1, 0, none⟩) 1 1) p1 (by dsimp only; omega)).trans HG1.out
          have hbf : Below C we (we.setCell ⟨C, 3, none⟩ (.slice (some ⟨p1, 0, none⟩) 1 1)) := (Below.refl _ _).setCell (p := ⟨C, 3, none⟩) (Nat.le_refl _) _
          have HMI := Lib.hid (show MI w T (highOf l) (.slice ia n ic) (.slice none 0 0) ps (we.setCell ⟨C, 3, none⟩ (.slice (some ⟨p1, 0, none⟩) 1 1)) from ⟨HMI.out.bel.setCell (p := ⟨C, 3, none⟩) hwC _, HMI.out.low, (Below.heap_setCell _ _ _ _ (by dsimp only; omega)).trans HMI.out.box, HMI.out.ins.kept fun b hb => Below.heap_setCell _ _ _ _ (by have := HNH.out b hb; dsimp only; omega)⟩)
          have HBB := Lib.hid (HBB.out.up (hbf.mono (by omega)))
          generalize we.setCell ⟨C, 3, none⟩ (.slice (some ⟨p1, 0, none⟩) 1 1) = wf at *
          have a0 : wf.cell? ⟨C, 0, none⟩ = some (.string cid) := cell_at hCf
          have a1 : wf.cell? ⟨C, 1, none⟩ = some (.int .u32 ci) := cell_at hCf
          have a2 : wf.cell? ⟨C, 2, none⟩ = some (.int .u32 4294967293) := cell_at hCf
          have a3 : wf.cell? ⟨C, 3, none⟩ = some (.slice (some ⟨p1, 0, none⟩) 1 1) := cell_at hCf
          have t1 : wf.cell? ⟨T, 1, none⟩ = some (.slice ia n ic) := cell_at HMI.out.box
          have hal : Below wf.heap.size wf (wf.alloc (.cells #[.string cid, .int .u32 ci, .int .u32 (4294967293 : Nat), .slice (some ⟨p1, 0, none⟩) 1 1] 76)) := (Below.refl _ _).alloc (Nat.le_refl _) _
          have hsz := hal.size
          have hTf := HMI.out.lt
          have hNCf : ∀ b, InsHas (.slice ia n ic) ps b → b < C := HNH.out
          obtain ⟨a8, c8, w8, hrun, hbox, hkeep, hm8⟩ := (HMI.out.below hal).app HPL.out (by omega) cid ci 4294967293 (signW 0 tag) (N := C) hNCf hTC (by omega) (heap_alloc_new wf _) ((Below.heap_alloc _ _ _ (lt_of hG)).trans hG) HCN.out
          have u1 : w8.cell? ⟨T, 1, none⟩ = some (.slice ia n ic) := cell_at hbox
          have f1 : w8.frozen? ⟨T, 1, none⟩ = false := free_at hbox
          have hlow : ∀ b, b ≤ N → (w8.setCell ⟨T, 1, none⟩ (.slice a8 (n + 1) c8)).heap[b]? = wf.heap[b]? := fun b hb => (Below.heap_setCell _ _ _ _ (show b ≠ T by omega)).trans ((hkeep b (by omega) (fun e => by have := (HMI.out.ins.row.lt b e).1; omega)).trans (hal.block b (by omega)))
          have HB8 := Lib.hid (show BB w X N (enC cid ci cv cs ch) (w8.setCell ⟨T, 1, none⟩ (.slice a8 (n + 1) c8)) from ⟨hm8.bel, HBB.out.low, HBB.out.lt, (hlow X (by have := HC1.out; omega)).trans HBB.out.x, (hlow (X + 1) (by have := HC1.out; omega)).trans HBB.out.r, (hlow N (Nat.le_refl _)).trans HBB.out.n⟩)
          have HM8 := Lib.hid hm8
          have HR := Lib.hid hrun
          clear hrun hbox hkeep hm8 hlow hal hG hCf hbf HBB HMI HG1 HCB b3 hNCf
          go_upto_region 33 with (at_builtin; refine wpList_append_run rfl (.tmp 161) (.tmp 163) 41 41 rfl rfl rfl HR.out ?_)
          generalize w8.setCell ⟨T, 1, none⟩ (.slice a8 (n + 1) c8) = w9 at *
          clear u1 f1 t1 a0 a1 a2 a3 HR
          go_wp2_with fail
          refine (rscript_any tag ht w9).mono ?_
          rintro e w10 ⟨rfl, hb⟩
          have HBB := Lib.hid (HB8.out.next hb)
          have HM := Lib.hid (HM8.out.below hb)
          have t2a : ∀ o, (w10.alloc o).cell? ⟨T, 2, none⟩ = some (.slice none 0 0) := fun o => cell_over (cell_at HM.out.box) o
          have f2a : ∀ o, (w10.alloc o).frozen? ⟨T, 2, none⟩ = false := fun o => free_at ((Below.heap_alloc w10 o T HM.out.lt).trans HM.out.box)
          clear hb HB8 HM8
          go_upto_region 35 with fail
          rw [← HV.out]
          have hal : Below w10.heap.size w10 (w10.alloc (.cells #[.int .i64 V, .string (scrT tag)] 38)) := (Below.refl _ _).alloc (Nat.le_refl _) _
          have hqg := heap_alloc_new w10 (.cells #[.int .i64 V, .string (scrT tag)] 38)
          have hQT : T < w10.heap.size := HM.out.lt
          have HQ7 := Lib.hid ((Below.heap_setCell (w10.alloc (.cells #[.int .i64 V, .string (scrT tag)] 38)) ⟨T, 2, none⟩ (.slice (some ⟨w10.heap.size, 0, none⟩) 1 1) w10.heap.size (by dsimp only; omega)).trans hqg)
          have HBB := Lib.hid ((HBB.out.next hal).up ((Below.refl _ _).setCell (p := ⟨T, 2, none⟩) (show N + 1 ≤ T by omega) (.slice (some ⟨w10.heap.size, 0, none⟩) 1 1)))
          have HM7 := Lib.hid ((HM.out.below hal).set (j := 2) (u := .slice (some ⟨w10.heap.size, 0, none⟩) 1 1) (hi' := highOf l) (vo' := .slice (some ⟨w10.heap.size, 0, none⟩) 1 1) rfl)
          generalize (w10.alloc (.cells #[.int .i64 V, .string (scrT tag)] 38)).setCell ⟨T, 2, none⟩ (.slice (some ⟨w10.heap.size, 0, none⟩) 1 1) = w7 at *
          generalize w10.heap.size = Q at *
          clear hal hqg t2a f2a HM
          have t0 : w7.cell? ⟨T, 0, none⟩ = some (.int .u32 2) := cell_at HM7.out.box
          have t1 : w7.cell? ⟨T, 1, none⟩ = some (.slice a8 (n + 1) c8) := cell_at HM7.out.box
          have t2 : w7.cell? ⟨T, 2, none⟩ = some (.slice (some ⟨Q, 0, none⟩) 1 1) := cell_at HM7.out.box
          have t3 : w7.cell? ⟨T, 3, none⟩ = some (.int .u32 (highOf l)) := cell_at HM7.out.box
          have HQW := Lib.hid (show w.heap.size ≤ Q by have := HC0.out; have := HC1.out; omega)
          have HTE := Lib.hid (show claimTx l cid ci tag V = ⟨2, (ps ++ [((⟨cid, ci, 4294967293, [signW 0 tag]⟩ : PIn), (.slice (some ⟨p1, 0, none⟩) 1 1 : Value))]).map (·.1), [⟨V, scrT tag⟩], highOf l⟩ by
            rw [List.map_append, HPS.out]; rfl)
          have HSC := Lib.hid (show OkOut ⟨V, scrT tag⟩ from ⟨⟨by show _ ≤ V; omega, by show V ≤ _; omega⟩, by dsimp only; rw [scrT_size]; decide⟩)
          have HTX := Lib.hid (HM7.out.new (t := claimTx l cid ci tag V) (x := ⟨V, scrT tag⟩) HQW.out HQ7.out HSC.out HTE.out (by have := HH.out; omega))
          have HFC := Lib.hid (show firstD (claimTx l cid ci tag V).outs 0 = if V < 255 then 0 else -1 from by
            show firstD [⟨V, scrT tag⟩] 0 = _
            rw [firstD, child_dust]
            by_cases h : V < 255
            · rw [decide_eq_true h, if_pos h]; rfl
            · rw [decide_eq_false h, if_neg h]; rfl)
          obtain ⟨t, htt⟩ : ∃ t, t = claimTx l cid ci tag V := ⟨_, rfl⟩
          have HOL := Lib.hid (show t.outs.length ≤ 1000 by rw [htt]; show 1 ≤ 1000; decide)
          rw [← htt] at HTX HQ5 HTE HFC
          have HF1 := Lib.hid (rfirst_any _ t w7 HTX.out.at)
          clear htt
          generalize firstD t.outs 0 = fd at *
          go_wp2_with fail
          refine HF1.out.mono ?_
          rintro e w11 ⟨rfl, hb⟩
          have HBB := Lib.hid (HBB.out.next hb)
          have HM7 := Lib.hid (HM7.out.below hb)
          have HQ7 := Lib.hid (stay HQ7.out hb)
          have HTX := Lib.hid (HTX.out.below hb)
          replace t0 := below_cells hb _ _ t0
          replace t1 := below_cells hb _ _ t1
          replace t2 := below_cells hb _ _ t2
          replace t3 := below_cells hb _ _ t3
          clear hb HF1
          have n0 : w11.cell? ⟨N, 0, none⟩ = some (.int .u32 0) := cell_at HBB.out.n
          have n1 : w11.cell? ⟨N, 1, none⟩ = some (.slice none 0 0) := cell_at HBB.out.n
          have n2 : w11.cell? ⟨N, 2, none⟩ = some (.slice none 0 0) := cell_at HBB.out.n
          have n3 : w11.cell? ⟨N, 3, none⟩ = some (.int .u32 0) := cell_at HBB.out.n
          have r0 : w11.cell? ⟨X + 1, 0, none⟩ = some (.int .u32 0) := cell_at HBB.out.r
          have r1 : w11.cell? ⟨X + 1, 1, none⟩ = some (.slice none 0 0) := cell_at HBB.out.r
          have r2 : w11.cell? ⟨X + 1, 2, none⟩ = some (.slice none 0 0) := cell_at HBB.out.r
          have r3 : w11.cell? ⟨X + 1, 3, none⟩ = some (.int .u32 0) := cell_at HBB.out.r
          have f0 : w11.frozen? ⟨X + 1, 0, none⟩ = false := free_at HBB.out.r
          have f1 : w11.frozen? ⟨X + 1, 1, none⟩ = false := free_at HBB.out.r
          have f2 : w11.frozen? ⟨X + 1, 2, none⟩ = false := free_at HBB.out.r
          have f3 : w11.frozen? ⟨X + 1, 3, none⟩ = false := free_at HBB.out.r
          by_cases hd : V < 255
          · have HZ := Lib.hid (HQ5.out.trans (if_pos hd))
            have hfd : fd = 0 := HFC.out.trans (if_pos hd)
            subst hfd
            go_wp2_with fail
            exact bodyPost_ret (v := .tuple #[.agg #[.int .u32 0, .slice none 0 0, .slice none 0 0, .int .u32 0], .int .i64 13]) (by simp [results, Tryz.results11, go_sem, r0, r1, r2, r3]) rfl (build_is HZ.out (tx_zero _ _) (set4_zero HBB.out.bel hX2 _ _ _ _))
          have HQ6 := Lib.hid (HQ5.out.trans (if_neg hd))
          have hfd : fd = -1 := HFC.out.trans (if_neg hd)
          subst hfd
          have HCK := Lib.hid (rcheck_any _ t w11 HTX.out.at HOL.out)
          obtain ⟨ck, hck⟩ : ∃ ck, ck = checkOf t := ⟨_, rfl⟩
          rw [← hck] at HCK HQ6
          clear n0 n1 n2 n3 r0 r1 r2 r3 f0 f1 f2 f3 hck
          go_wp2_with fail
          refine HCK.out.mono ?_
          rintro e w12 ⟨rfl, hb⟩
          have HBB := Lib.hid (HBB.out.next hb)
          have HM7 := Lib.hid (HM7.out.below hb)
          have HQ7 := Lib.hid (stay HQ7.out hb)
          replace t0 := below_cells hb _ _ t0
          replace t1 := below_cells hb _ _ t1
          replace t2 := below_cells hb _ _ t2
          replace t3 := below_cells hb _ _ t3
          clear hb HCK HTX
          have n0 : w12.cell? ⟨N, 0, none⟩ = some (.int .u32 0) := cell_at HBB.out.n
          have n1 : w12.cell? ⟨N, 1, none⟩ = some (.slice none 0 0) := cell_at HBB.out.n
          have n2 : w12.cell? ⟨N, 2, none⟩ = some (.slice none 0 0) := cell_at HBB.out.n
          have n3 : w12.cell? ⟨N, 3, none⟩ = some (.int .u32 0) := cell_at HBB.out.n
          have r0 : w12.cell? ⟨X + 1, 0, none⟩ = some (.int .u32 0) := cell_at HBB.out.r
          have r1 : w12.cell? ⟨X + 1, 1, none⟩ = some (.slice none 0 0) := cell_at HBB.out.r
          have r2 : w12.cell? ⟨X + 1, 2, none⟩ = some (.slice none 0 0) := cell_at HBB.out.r
          have r3 : w12.cell? ⟨X + 1, 3, none⟩ = some (.int .u32 0) := cell_at HBB.out.r
          have f0 : w12.frozen? ⟨X + 1, 0, none⟩ = false := free_at HBB.out.r
          have f1 : w12.frozen? ⟨X + 1, 1, none⟩ = false := free_at HBB.out.r
          have f2 : w12.frozen? ⟨X + 1, 2, none⟩ = false := free_at HBB.out.r
          have f3 : w12.frozen? ⟨X + 1, 3, none⟩ = false := free_at HBB.out.r
          by_cases hc0 : ck = 0
          · subst hc0
            have HZ := Lib.hid (HQ6.out.trans (if_neg (by simp)))
            have hTX : X + 1 < T := by have := HC1.out; omega
            have hne : Q ≠ X + 1 := by omega
            have HM8 := Lib.hid ((((HM7.out.aside (p := ⟨X + 1, 0, none⟩) (.int .u32 2) hX2 hTX).aside (p := ⟨X + 1, 1, none⟩) (.slice a8 (n + 1) c8) hX2 hTX).aside (p := ⟨X + 1, 2, none⟩) (.slice (some ⟨Q, 0, none⟩) 1 1) hX2 hTX).aside (p := ⟨X + 1, 3, none⟩) (.int .u32 (highOf l)) hX2 hTX)
            have HQ8 := Lib.hid (show ((((w12.setCell ⟨X + 1, 0, none⟩ (.int .u32 2)).setCell ⟨X + 1, 1, none⟩ (.slice a8 (n + 1) c8)).setCell ⟨X + 1, 2, none⟩ (.slice (some ⟨Q, 0, none⟩) 1 1)).setCell ⟨X + 1, 3, none⟩ (.int .u32 (highOf l))).heap[Q]? = some (.cells #[.int .i64 V, .string (scrT tag)] 38 (0, 0)) by
              rw [Below.heap_setCell _ _ _ _ hne, Below.heap_setCell _ _ _ _ hne, Below.heap_setCell _ _ _ _ hne, Below.heap_setCell _ _ _ _ hne]; exact HQ7.out)
            have HF := Lib.hid (build_is (v := .agg #[.int .u32 2, .slice a8 (n + 1) c8, .slice (some ⟨Q, 0, none⟩) 1 1, .int .u32 (highOf l)]) HZ.out (HM8.out.new (t := t) (x := ⟨V, scrT tag⟩) HQW.out HQ8.out HSC.out HTE.out (by have := HH.out; omega)) HM8.out.bel)
            clear HM8 HQ8 hne hTX
            go_wp2_with fail
            exact bodyPost_ret (v := .tuple #[.agg #[.int .u32 2, .slice a8 (n + 1) c8, .slice (some ⟨Q, 0, none⟩) 1 1, .int .u32 (highOf l)], .int .i64 0]) (by simp [results, Tryz.results11, go_sem, r0, r1, r2, r3]) rfl HF.out
          · have HZ := Lib.hid (HQ6.out.trans (if_pos hc0))
            have hne : (ck == 0) = false := by simpa using hc0
            go_wp2_with fail
            exact bodyPost_ret (v := .tuple #[.agg #[.int .u32 0, .slice none 0 0, .slice none 0 0, .int .u32 0], .int .i64 ck]) (by simp [results, Tryz.results11, go_sem, r0, r1, r2, r3]) rfl (build_is HZ.out (tx_zero _ _) (set4_zero HBB.out.bel hX2 _ _ _ _))
end Go.Proofs.YtmakghcoehkphaaGreat
