/-
  slices.Contains of claims. Conditions: the rows lie in memory, the claim is there.
-/
import Derived.Test.YtmakghcoehkphaaGreatKt
namespace Go.Proofs.YtmakghcoehkphaaGreat
open Go.RowKit Go.BigFrame
set_option linter.unusedVariables false
set_option linter.unusedSimpArgs false

def IdxC (l : List PCl) (w : World) (e : Ending) (w' : World) : Prop := ∃ k : Nat, k < l.length ∧ e = .returned (.int .i64 k) ∧ Below w.heap.size w w'
set_option maxRecDepth 100000 in
set_option maxHeartbeats 2000000 in
theorem indexC_any (v : Value) (l : List PCl) (c : PCl) (hc : c ∈ l) (w : World) (hv : SlAt rpCl w v l) : Calls Tryz.prog 51 #[v, clV c] w (IdxC l w) := by
  have HS := Lib.hid hv
  have HC := Lib.hid hc
  obtain ⟨a, cc, rfl, hl1, hl2⟩ := hv.shape
  rw [maxLen_eq] at hl2
  obtain ⟨n, hn⟩ : ∃ n, n = l.length := ⟨_, rfl⟩
  rw [← hn] at hl1 HS ⊢
  have HN := Lib.hid hn
  unfold clV
  clear hv hc hn
  go_enter Tryz.func51, Tryz.ntmps51
  go_upto_region 1 with fail
  have hz := heap_alloc_new w (.cells #[.string c.id, .int .u32 c.idx, .int .i64 c.val, .int .i64 c.br, .int .u16 c.lock.tag, .int .u16 c.lock.delay, .int .u32 c.lock.height, .int .i64 c.dead] 34)
  have hal : Below w.heap.size w (w.alloc (.cells #[.string c.id, .int .u32 c.idx, .int .i64 c.val, .int .i64 c.br, .int .u16 c.lock.tag, .int .u16 c.lock.delay, .int .u32 c.lock.height, .int .i64 c.dead] 34)) := (Below.refl _ _).alloc (Nat.le_refl _) _
  obtain ⟨X, hX⟩ : ∃ q, q = w.heap.size := ⟨_, rfl⟩
  rw [← hX] at hz ⊢
  generalize w.alloc (.cells #[.string c.id, .int .u32 c.idx, .int .i64 c.val, .int .i64 c.br, .int .u16 c.lock.tag, .int .u16 c.lock.delay, .int .u32 c.lock.height, .int .i64 c.dead] 34) = w0 at *
  have HB0 := Lib.hid hal
  have HX := Lib.hid hz
  clear hz hal hX
  go_wp2_with fail
  go_loopg [8] n (fun g i wr => ∃ k : Nat, g = n - k ∧ k ≤ n ∧ i = .int .i64 k ∧ Below w0.heap.size w0 wr ∧ ∀ (j : Nat) (y : PCl), j < k → l[j]? = some y → c ≠ y)
  case atStart => exact ⟨0, rfl, by omega, rfl, Below.refl _ _, fun j y hj => absurd hj (Nat.not_lt_zero _)⟩
  case round =>
    rename World => wo
    obtain ⟨k, hgk, hk, rfl, hb, hno⟩ := hrel
    have HGK := Lib.hid hgk
    have HBW := Lib.hid (HB0.out.trans (hb.mono HB0.out.size))
    have HB := Lib.hid hb
    have HNO := Lib.hid hno
    have hx := stay HX.out hb
    clear hgk hb hno
    by_cases hlt : k < n
    · obtain ⟨b, o, x, rfl, hxx, -, hcl⟩ := (HS.out.below HBW.out).cl hlt
      obtain ⟨d0, d1, d2, d3, d4, d5, d6, d7⟩ := hcl
      have x0 : wo.cell? ⟨X, 0, none⟩ = some (.string c.id) := cell_at hx
      have x1 : wo.cell? ⟨X, 1, none⟩ = some (.int .u32 c.idx) := cell_at hx
      have x2 : wo.cell? ⟨X, 2, none⟩ = some (.int .i64 c.val) := cell_at hx
      have x3 : wo.cell? ⟨X, 3, none⟩ = some (.int .i64 c.br) := cell_at hx
      have x4 : wo.cell? ⟨X, 4, none⟩ = some (.int .u16 c.lock.tag) := cell_at hx
      have x5 : wo.cell? ⟨X, 5, none⟩ = some (.int .u16 c.lock.delay) := cell_at hx
      have x6 : wo.cell? ⟨X, 6, none⟩ = some (.int .u32 c.lock.height) := cell_at hx
      have x7 : wo.cell? ⟨X, 7, none⟩ = some (.int .i64 c.dead) := cell_at hx
      obtain ⟨bq, heq, hsame⟩ := eql_cl c x
      unfold clV at heq
      have hg := guardCl
      have HXX := Lib.hid hxx
      have HSM := Lib.hid hsame
      clear hx hxx hsame
      go_upto_region 4 with fail
      cases bq
      · have HNX := Lib.hid (show ∀ (j : Nat) (y : PCl), j < k + 1 → l[j]? = some y → c ≠ y from fun j y hj hy => by
          rcases Nat.lt_or_ge j k with h | h
          · exact HNO.out j y h hy
          · obtain rfl : j = k := by omega
            rw [HXX.out] at hy
            obtain rfl := Option.some.inj hy
            exact fun e => by have := HSM.out e; cases this)
        go_region
        all_goals
          go_wp2_with fail
          go_roundg (n - (k + 1))
          case measure => have := HGK.out; omega
          case rel => exact ⟨k + 1, rfl, by omega, by go_num, HB.out.drew, HNX.out⟩
      · go_region
        all_goals
          go_wp2_with fail
          go_ret
          exact ⟨k, by rw [← HN.out]; exact hlt, rfl, HBW.out.drew⟩
    · exfalso
      obtain ⟨j, hj⟩ := List.mem_iff_getElem?.1 HC.out
      have hjl := (List.getElem?_eq_some_iff.1 hj).1
      exact HNO.out j c (by rw [← HN.out] at hjl; omega) hj rfl
set_option maxRecDepth 100000 in
set_option maxHeartbeats 2000000 in
theorem containsC_any (v : Value) (l : List PCl) (c : PCl) (hc : c ∈ l) (w : World) (hv : SlAt rpCl w v l) : Calls Tryz.prog 21 #[v, clV c] w fun e w' => e = .returned (.bool true) ∧ Below w.heap.size w w' := by
  have HI := Lib.hid (fun y h => indexC_any v l c hc y h)
  have HS := Lib.hid hv
  obtain ⟨a, cc, rfl, -, -⟩ := hv.shape
  generalize l.length = n at *
  unfold clV at HI ⊢
  clear hv hc
  go_enter Tryz.func21, Tryz.ntmps21
  go_upto_region 1 with fail
  have hz := heap_alloc_new w (.cells #[.string c.id, .int .u32 c.idx, .int .i64 c.val, .int .i64 c.br, .int .u16 c.lock.tag, .int .u16 c.lock.delay, .int .u32 c.lock.height, .int .i64 c.dead] 34)
  have hal : Below w.heap.size w (w.alloc (.cells #[.string c.id, .int .u32 c.idx, .int .i64 c.val, .int .i64 c.br, .int .u16 c.lock.tag, .int .u16 c.lock.delay, .int .u32 c.lock.height, .int .i64 c.dead] 34)) := (Below.refl _ _).alloc (Nat.le_refl _) _
  obtain ⟨X, hX⟩ : ∃ q, q = w.heap.size := ⟨_, rfl⟩
  rw [← hX] at hz ⊢
  generalize w.alloc (.cells #[.string c.id, .int .u32 c.idx, .int .i64 c.val, .int .i64 c.br, .int .u16 c.lock.tag, .int .u16 c.lock.delay, .int .u32 c.lock.height, .int .i64 c.dead] 34) = w0 at *
  have HB0 := Lib.hid hal
  have HS := Lib.hid (HS.out.below hal)
  have x0 : w0.cell? ⟨X, 0, none⟩ = some (.string c.id) := cell_at hz
  have x1 : w0.cell? ⟨X, 1, none⟩ = some (.int .u32 c.idx) := cell_at hz
  have x2 : w0.cell? ⟨X, 2, none⟩ = some (.int .i64 c.val) := cell_at hz
  have x3 : w0.cell? ⟨X, 3, none⟩ = some (.int .i64 c.br) := cell_at hz
  have x4 : w0.cell? ⟨X, 4, none⟩ = some (.int .u16 c.lock.tag) := cell_at hz
  have x5 : w0.cell? ⟨X, 5, none⟩ = some (.int .u16 c.lock.delay) := cell_at hz
  have x6 : w0.cell? ⟨X, 6, none⟩ = some (.int .u32 c.lock.height) := cell_at hz
  have x7 : w0.cell? ⟨X, 7, none⟩ = some (.int .i64 c.dead) := cell_at hz
  clear hz hal hX
  go_wp2_with fail
  refine (HI.out w0 HS.out).mono ?_
  rintro e w1 ⟨k, -, rfl, hb⟩
  have HB1 := Lib.hid (HB0.out.trans (hb.mono HB0.out.size))
  have hk0 : (0 : Int) ≤ (k : Int) := by omega
  clear hb
  go_wp2_with fail
  go_ret
  exact ⟨by first | rfl | simp, HB1.out⟩
end Go.Proofs.YtmakghcoehkphaaGreat
