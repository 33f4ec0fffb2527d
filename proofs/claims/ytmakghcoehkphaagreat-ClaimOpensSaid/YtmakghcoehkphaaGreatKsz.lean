/-
  ClaimSizes: the walk. Conditions: the claims lie in memory, the numbers are ones of their kinds.
-/
import Derived.Test.YtmakghcoehkphaaGreatKv
import Derived.Test.YtmakghcoehkphaaGreatQ11ClaimBuilds
import Derived.Test.YtmakghcoehkphaaGreatKq
namespace Go.Proofs.YtmakghcoehkphaaGreat
open Go.RowKit Go.BigFrame
set_option linter.unusedVariables false
set_option linter.unusedSimpArgs false

/-! ### claims of the call's own, each changed in its place -/
theorem ClsOwn.some_ {base : Nat} {w : World} {a : Option Addr} {n c : Nat} {l : List PCl} (h : ClsOwn base w (.slice a n c) l) (hn : 0 < n) : ∃ b, a = some ⟨b, 0, none⟩ ∧ base ≤ b ∧ b < w.heap.size := by
  obtain ⟨a', c', e, -, -⟩ := ownsRow_shape h.row
  obtain ⟨rfl, rfl, rfl⟩ : a = a' ∧ n = l.length ∧ c = c' := by simpa using e
  exact ownsRow_some h.row hn
theorem ClsOwn.set3 {base : Nat} {w : World} {b n c : Nat} {l : List PCl} (h : ClsOwn base w (.slice (some ⟨b, 0, none⟩) n c) l) {i : Nat} {x : PCl} (hi : l[i]? = some x) {v2 v3 : Int} {hh : Nat}
    (h2 : -9223372036854775808 ≤ v2 ∧ v2 ≤ 9223372036854775807) (h3 : -9223372036854775808 ≤ v3 ∧ v3 ≤ 9223372036854775807) (h6 : hh < 4294967296) :
    ClsOwn base (((w.setCell ⟨b, i * 8 + 2, none⟩ (.int .i64 v2)).setCell ⟨b, i * 8 + 3, none⟩ (.int .i64 v3)).setCell ⟨b, i * 8 + 6, none⟩ (.int .u32 hh)) (.slice (some ⟨b, 0, none⟩) n c) (l.set i ⟨x.id, x.idx, v2, v3, ⟨x.lock.tag, x.lock.delay, hh⟩, x.dead⟩) := by
  have hil := (List.getElem?_eq_some_iff.1 hi).1
  have hy := h.ok x (List.mem_of_getElem? hi)
  have at_ : ∀ (l' : List PCl) (z : PCl), i < l'.length → (l'.set i z)[i]? = some z := fun l' z hl => by simp [hl]
  have k2 := h.set hi 2 (.int .i64 v2) (by decide) (x' := ⟨x.id, x.idx, v2, x.br, x.lock, x.dead⟩) rfl ⟨hy.id, hy.idx, h2, hy.br, hy.lock, hy.dead⟩
  have k3 := k2.set (at_ _ _ hil) 3 (.int .i64 v3) (by decide) (x' := ⟨x.id, x.idx, v2, v3, x.lock, x.dead⟩) rfl ⟨hy.id, hy.idx, h2, h3, hy.lock, hy.dead⟩
  rw [List.set_set] at k3
  have k6 := k3.set (at_ _ _ hil) 6 (.int .u32 hh) (by decide) (x' := ⟨x.id, x.idx, v2, v3, ⟨x.lock.tag, x.lock.delay, hh⟩, x.dead⟩) rfl ⟨hy.id, hy.idx, h2, h3, ⟨hy.lock.tag, hy.lock.delay, h6⟩, hy.dead⟩
  rw [List.set_set] at k6
  exact k6
theorem mapTo_at {f : PCl → PCl} {l : List PCl} {k : Nat} {x : PCl} (h : l[k]? = some x) : ((l.take k).map f ++ l.drop k)[k]? = some x ∧ ((l.take k).map f ++ l.drop k).set k (f x) = (l.take (k + 1)).map f ++ l.drop (k + 1) := by
  obtain ⟨hk, rfl⟩ := List.getElem?_eq_some_iff.1 h
  have hlen : ((l.take k).map f).length = k := by rw [List.length_map, List.length_take]; omega
  constructor
  · rw [List.getElem?_append_right (by omega), hlen, Nat.sub_self, List.drop_eq_getElem_cons hk]; rfl
  · rw [List.set_append_right _ _ (by omega), hlen, Nat.sub_self, List.drop_eq_getElem_cons hk, List.set_cons_zero, take_snoc h, List.map_append, List.append_assoc]; rfl
def sizC (c : PCl) : PCl := ⟨c.id, c.idx, 1000, max 0 c.br % 3, ⟨c.lock.tag, c.lock.delay, c.lock.height % 1000001⟩, c.dead⟩
theorem claims_ok {l : List PCl} {cid : ByteArray} {ci tag : Nat} {cv fee : Int} (h : (claimsOf l cid ci cv tag fee).2 = 0) :
    (1 ≤ l.length ∧ l.length ≤ 32) ∧ ∃ v : Int, v = (sumA 0 (valsOf cv l)).1 - fee ∧ (sumA 0 (valsOf cv l)).2 = 0 ∧ claimsOf l cid ci cv tag fee = (claimTx l cid ci tag v, 0) ∧ checkOf (claimTx l cid ci tag v) = 0 := by
  unfold claimsOf at h ⊢
  split at h
  · exact absurd h (by decide)
  · rename_i h1
    rw [if_neg h1]
    split at h
    · exact absurd h (by decide)
    · rename_i h2
      rw [if_neg h2]
      split at h
      · exact absurd h (by decide)
      · rename_i h3
        rw [if_neg h3]
        split at h
        · exact absurd h (by decide)
        · rename_i h4
          rw [if_neg h4]
          split at h
          · exact absurd h (by decide)
          · rename_i h5
            rw [if_neg h5]
            split at h
            · rename_i h6
              exact absurd h h6
            · rename_i h6
              rw [if_neg h6]
              exact ⟨by omega, _, rfl, by
                have := not_or.1 h3
                exact Classical.byContradiction fun k => this.1 k, rfl, Classical.byContradiction h6⟩
set_option maxRecDepth 100000 in
set_option maxHeartbeats 8000000 in
theorem claimSizes_walk (vl : Value) (l : List PCl) (z : PRw) (rt n : Int) (w : World) (hv : SlAt rpCl w vl l) (hz : z.Ok) (hrt : -9223372036854775808 ≤ rt ∧ rt ≤ 9223372036854775807) (hnn : -9223372036854775808 ≤ n ∧ n ≤ 9223372036854775807) : Calls Tryz.prog 4 #[.agg (rwCells vl z), .int .i64 rt, .int .i64 n] w (BIs true w) := by
  have HOK := Lib.hid hz
  have HV := Lib.hid hv
  have hpl := ofQ_len hz
  have hpi := ofI_lt hz
  obtain ⟨sp, hsp⟩ : ∃ s, s = ofQ z := ⟨_, rfl⟩
  obtain ⟨si, hsi⟩ : ∃ s, s = ofI z := ⟨_, rfl⟩
  have HOF := Lib.hid (fun y (h : SlAt rpCl y vl l) => cof_any vl l z 32 y hz h (by decide))
  have HSP := Lib.hid hsp
  have HSI := Lib.hid hsi
  rw [← hsp] at hpl
  rw [← hsi] at hpi
  have HPL := Lib.hid hpl
  have HTAG := Lib.hid hz.tag
  obtain ⟨va, vc, rfl, -, -⟩ := hv.shape
  have hlen : (ofL z.odd (l.take 32)).length ≤ 32 := by rw [ofL_len, List.length_take]; omega
  obtain ⟨ll, hll⟩ : ∃ q, q = ofL z.odd (l.take 32) := ⟨_, rfl⟩
  rw [← hll] at hlen
  have HLL := Lib.hid hll
  generalize l.length = n0 at *
  unfold rwCells at HOF ⊢
  clear hsp hsi hz hv hpl hll
  go_enter Tryz.func4, Tryz.ntmps4
  go_upto_region 1 with fail
  have hz := heap_alloc_new w (.cells #[.slice va n0 vc, .string z.pid, .int .u32 z.pidx, .int .i64 z.val, .int .u16 z.tag, .int .i64 z.fee, .bool z.odd] 28)
  have hal : Below w.heap.size w (w.alloc (.cells #[.slice va n0 vc, .string z.pid, .int .u32 z.pidx, .int .i64 z.val, .int .u16 z.tag, .int .i64 z.fee, .bool z.odd] 28)) := (Below.refl _ _).alloc (Nat.le_refl _) _
  obtain ⟨X, hX⟩ : ∃ q, q = w.heap.size := ⟨_, rfl⟩
  rw [← hX] at hz ⊢
  generalize w.alloc (.cells #[.slice va n0 vc, .string z.pid, .int .u32 z.pidx, .int .i64 z.val, .int .u16 z.tag, .int .i64 z.fee, .bool z.odd] 28) = w0 at *
  have HZ0 := Lib.hid hz
  have HB0 := Lib.hid hal
  clear hz hal hX
  have hmr : 1 ≤ 1 + max 0 n % 32 ∧ 1 + max 0 n % 32 ≤ 32 := by omega
  obtain ⟨m, hm⟩ : ∃ m, m = 1 + max 0 n % 32 := ⟨_, rfl⟩
  have hwm : IntKind.i64.wrap (1 + max 0 n % 32) = m := by rw [IntKind.wrap_i64]; omega
  rw [← hm] at hmr
  have hqr : 0 ≤ max 0 rt % 20000 ∧ max 0 rt % 20000 < 20000 := by omega
  have HM := Lib.hid hm
  have HMR := Lib.hid hmr
  clear hm hmr
  go_wp2_with fail
  have hz := heap_alloc_new w0 (.cells #[.int .i64 n, .int .i64 m] 3)
  have hal : Below w0.heap.size w0 (w0.alloc (.cells #[.int .i64 n, .int .i64 m] 3)) := (Below.refl _ _).alloc (Nat.le_refl _) _
  obtain ⟨S, hS⟩ : ∃ q, q = w0.heap.size := ⟨_, rfl⟩
  rw [← hS] at hz ⊢
  generalize w0.alloc (.cells #[.int .i64 n, .int .i64 m] 3) = w1 at *
  have HB1 := Lib.hid (HB0.out.trans (hal.mono HB0.out.size))
  have HZ1 := Lib.hid (stay HZ0.out hal)
  have HS := Lib.hid hz
  clear hz hal hS HB0 HZ0 hwm
  go_loopg [33] 2 (fun g i wr => ∃ k : Nat, g = 2 - k ∧ k ≤ 2 ∧ i = .int .i64 k ∧ Below w1.heap.size w1 wr)
  case atStart => exact ⟨0, rfl, by omega, rfl, Below.refl _ _⟩
  case round =>
    rename World => wa
    obtain ⟨k, hgk, hk, rfl, hba⟩ := hrel
    have HGK := Lib.hid hgk
    have HBA := Lib.hid hba
    clear hgk hba
    by_cases hlt2 : k < 2
    · obtain ⟨kv, hkv, q0⟩ := two_intK (stay HS.out HBA.out) hlt2 hnn (by have := HMR.out; omega)
      have HK1 := Lib.hid (fun y => ksize_any kv y)
      have HK2 := Lib.hid (fun r y => kbid_any r kv y)
      have HK3 := Lib.hid (fun r y => rkbid_any r kv y)
      by_cases hin : 1 ≤ kv ∧ kv ≤ 32
      · obtain ⟨kn, rfl⟩ : ∃ kn : Nat, kv = kn := ⟨kv.toNat, by omega⟩
        have HK4 := Lib.hid (fun y => rksize_any kn (by omega) y)
        have hs : sizeS kn = (sizeN kn, 0) := by unfold sizeS; rw [if_pos hin, show ((kn : Nat) : Int).toNat = kn by omega]
        rw [hs] at HK1
        dsimp only at HK1
        generalize sizeN kn = sz at *
        have h1 : decide ((1 : Int) ≤ (kn : Int)) = true := decide_eq_true hin.1
        have h2 : decide ((kn : Int) ≤ 32) = true := decide_eq_true hin.2
        clear hs hin hkv
        go_wp2_with fail
        refine (HK1.out wa).mono ?_
        rintro e wb ⟨rfl, hb⟩
        have HBB := Lib.hid (HBA.out.trans (hb.mono HBA.out.size))
        clear hb q0 HK1
        go_wp2_with fail
        refine (HK4.out wb).mono ?_
        rintro e wb' ⟨rfl, rfl⟩
        clear HK4
        generalize (kn : Int) = kv at *
        go_wp2_with fail
        generalize max 0 rt % 20000 = rq at *
        have hz := heap_alloc_new wb (.cells #[.int .i64 rt, .int .i64 rq] 3)
        have hal : Below wb.heap.size wb (wb.alloc (.cells #[.int .i64 rt, .int .i64 rq] 3)) := (Below.refl _ _).alloc (Nat.le_refl _) _
        obtain ⟨U, hU⟩ : ∃ q, q = wb.heap.size := ⟨_, rfl⟩
        rw [← hU] at hz ⊢
        generalize wb.alloc (.cells #[.int .i64 rt, .int .i64 rq] 3) = wc at *
        have HBC := Lib.hid (HBB.out.trans (hal.mono HBB.out.size))
        have HU := Lib.hid hz
        clear hz hal hU
        go_loopg [79] 2 (fun g i wr => ∃ j : Nat, g = 2 - j ∧ j ≤ 2 ∧ i = .int .i64 j ∧ Below wc.heap.size wc wr)
        case atStart => exact ⟨0, rfl, by omega, rfl, Below.refl _ _⟩
        case round =>
          rename World => wd
          obtain ⟨j, hgj, hj, rfl, hbd⟩ := hrel
          have HGJ := Lib.hid hgj
          have HBD := Lib.hid (HBC.out.trans (hbd.mono HBC.out.size))
          have HBDC := Lib.hid hbd
          have HU := Lib.hid (stay HU.out hbd)
          clear hgj hbd
          by_cases hlj : j < 2
          · obtain ⟨rv, -, s0⟩ := two_intK HU.out hlj hrt (by omega)
            have HQ2 := Lib.hid (HK2.out rv)
            have HQ3 := Lib.hid (HK3.out rv)
            generalize bidS rv kv = bd at *
            obtain ⟨b1, b2⟩ := bd
            dsimp only at HQ2 HQ3
            go_wp2_with fail
            refine (HQ2.out wd).mono ?_
            rintro e we ⟨rfl, hb⟩
            have HBE := Lib.hid (HBDC.out.trans (hb.mono HBDC.out.size))
            clear hb s0 HQ2
            go_wp2_with fail
            refine (HQ3.out we).mono ?_
            rintro e we' ⟨rfl, rfl⟩
            clear HQ3
            go_wp2_with fail
            go_roundg (2 - (j + 1))
            case measure => have := HGJ.out; omega
            case rel => exact ⟨j + 1, rfl, by omega, by go_num, HBE.out⟩
          · obtain rfl : j = 2 := by omega
            go_wp2_with fail
            go_roundg (2 - (k + 1))
            case measure => have := HGK.out; omega
            case rel => exact ⟨k + 1, rfl, by omega, by go_num, HBD.out⟩
      · have hs : sizeS kv = (0, 6) := by unfold sizeS; rw [if_neg hin]
        rw [hs] at HK1
        dsimp only at HK1
        have hbad : (decide (1 ≤ kv) && decide (kv ≤ 32)) = false := by
          rw [Bool.and_eq_false_iff]
          rcases Int.lt_or_le kv 1 with h | h
          · exact .inl (decide_eq_false (by omega))
          · exact .inr (decide_eq_false (by omega))
        obtain ⟨p1, hp1⟩ : ∃ p, p = decide (1 ≤ kv) := ⟨_, rfl⟩
        obtain ⟨p2, hp2⟩ : ∃ p, p = decide (kv ≤ 32) := ⟨_, rfl⟩
        rw [← hp1, ← hp2] at hbad
        clear hs hin hkv
        replace hp1 := hp1.symm
        replace hp2 := hp2.symm
        cases p1
        · go_wp2_with fail
          refine (HK1.out wa).mono ?_
          rintro e wb ⟨rfl, hb⟩
          have HBB := Lib.hid (HBA.out.trans (hb.mono HBA.out.size))
          clear hb q0 HK1
          go_wp2_with fail
          generalize max 0 rt % 20000 = rq at *
          have hz := heap_alloc_new wb (.cells #[.int .i64 rt, .int .i64 rq] 3)
          have hal : Below wb.heap.size wb (wb.alloc (.cells #[.int .i64 rt, .int .i64 rq] 3)) := (Below.refl _ _).alloc (Nat.le_refl _) _
          obtain ⟨U, hU⟩ : ∃ q, q = wb.heap.size := ⟨_, rfl⟩
          rw [← hU] at hz ⊢
          generalize wb.alloc (.cells #[.int .i64 rt, .int .i64 rq] 3) = wc at *
          have HBC := Lib.hid (HBB.out.trans (hal.mono HBB.out.size))
          have HU := Lib.hid hz
          clear hz hal hU
          go_loopg [79] 2 (fun g i wr => ∃ j : Nat, g = 2 - j ∧ j ≤ 2 ∧ i = .int .i64 j ∧ Below wc.heap.size wc wr)
          case atStart => exact ⟨0, rfl, by omega, rfl, Below.refl _ _⟩
          case round =>
            rename World => wd
            obtain ⟨j, hgj, hj, rfl, hbd⟩ := hrel
            have HGJ := Lib.hid hgj
            have HBD := Lib.hid (HBC.out.trans (hbd.mono HBC.out.size))
            have HBDC := Lib.hid hbd
            have HU := Lib.hid (stay HU.out hbd)
            clear hgj hbd
            by_cases hlj : j < 2
            · obtain ⟨rv, -, s0⟩ := two_intK HU.out hlj hrt (by omega)
              have HQ2 := Lib.hid (HK2.out rv)
              have HQ3 := Lib.hid (HK3.out rv)
              generalize bidS rv kv = bd at *
              obtain ⟨b1, b2⟩ := bd
              dsimp only at HQ2 HQ3
              go_wp2_with fail
              refine (HQ2.out wd).mono ?_
              rintro e we ⟨rfl, hb⟩
              have HBE := Lib.hid (HBDC.out.trans (hb.mono HBDC.out.size))
              clear hb s0 HQ2
              go_wp2_with fail
              refine (HQ3.out we).mono ?_
              rintro e we' ⟨rfl, rfl⟩
              clear HQ3
              go_wp2_with fail
              go_roundg (2 - (j + 1))
              case measure => have := HGJ.out; omega
              case rel => exact ⟨j + 1, rfl, by omega, by go_num, HBE.out⟩
            · obtain rfl : j = 2 := by omega
              go_wp2_with fail
              go_roundg (2 - (k + 1))
              case measure => have := HGK.out; omega
              case rel => exact ⟨k + 1, rfl, by omega, by go_num, HBD.out⟩
        · obtain rfl : p2 = false := by simpa using hbad
          clear hbad
          go_wp2_with fail
          refine (HK1.out wa).mono ?_
          rintro e wb ⟨rfl, hb⟩
          have HBB := Lib.hid (HBA.out.trans (hb.mono HBA.out.size))
          clear hb q0 HK1
          go_wp2_with fail
          generalize max 0 rt % 20000 = rq at *
          have hz := heap_alloc_new wb (.cells #[.int .i64 rt, .int .i64 rq] 3)
          have hal : Below wb.heap.size wb (wb.alloc (.cells #[.int .i64 rt, .int .i64 rq] 3)) := (Below.refl _ _).alloc (Nat.le_refl _) _
          obtain ⟨U, hU⟩ : ∃ q, q = wb.heap.size := ⟨_, rfl⟩
          rw [← hU] at hz ⊢
          generalize wb.alloc (.cells #[.int .i64 rt, .int .i64 rq] 3) = wc at *
          have HBC := Lib.hid (HBB.out.trans (hal.mono HBB.out.size))
          have HU := Lib.hid hz
          clear hz hal hU
          go_loopg [79] 2 (fun g i wr => ∃ j : Nat, g = 2 - j ∧ j ≤ 2 ∧ i = .int .i64 j ∧ Below wc.heap.size wc wr)
          case atStart => exact ⟨0, rfl, by omega, rfl, Below.refl _ _⟩
          case round =>
            rename World => wd
            obtain ⟨j, hgj, hj, rfl, hbd⟩ := hrel
            have HGJ := Lib.hid hgj
            have HBD := Lib.hid (HBC.out.trans (hbd.mono HBC.out.size))
            have HBDC := Lib.hid hbd
            have HU := Lib.hid (stay HU.out hbd)
            clear hgj hbd
            by_cases hlj : j < 2
            · obtain ⟨rv, -, s0⟩ := two_intK HU.out hlj hrt (by omega)
              have HQ2 := Lib.hid (HK2.out rv)
              have HQ3 := Lib.hid (HK3.out rv)
              generalize bidS rv kv = bd at *
              obtain ⟨b1, b2⟩ := bd
              dsimp only at HQ2 HQ3
              go_wp2_with fail
              refine (HQ2.out wd).mono ?_
              rintro e we ⟨rfl, hb⟩
              have HBE := Lib.hid (HBDC.out.trans (hb.mono HBDC.out.size))
              clear hb s0 HQ2
              go_wp2_with fail
              refine (HQ3.out we).mono ?_
              rintro e we' ⟨rfl, rfl⟩
              clear HQ3
              go_wp2_with fail
              go_roundg (2 - (j + 1))
              case measure => have := HGJ.out; omega
              case rel => exact ⟨j + 1, rfl, by omega, by go_num, HBE.out⟩
            · obtain rfl : j = 2 := by omega
              go_wp2_with fail
              go_roundg (2 - (k + 1))
              case measure => have := HGK.out; omega
              case rel => exact ⟨k + 1, rfl, by omega, by go_num, HBD.out⟩
    · obtain rfl : k = 2 := by omega
      have HB2 := Lib.hid (HB1.out.trans (HBA.out.mono HB1.out.size))
      have hz := stay HZ1.out HBA.out
      have HOF := Lib.hid (HOF.out wa (HV.out.below HB2.out))
      have hX1 : X < wa.heap.size := lt_of hz
      have z0 : wa.cell? ⟨X, 0, none⟩ = some (.slice va n0 vc) := cell_at hz
      have z1 : wa.cell? ⟨X, 1, none⟩ = some (.string z.pid) := cell_at hz
      have z2 : wa.cell? ⟨X, 2, none⟩ = some (.int .u32 z.pidx) := cell_at hz
      have z3 : wa.cell? ⟨X, 3, none⟩ = some (.int .i64 z.val) := cell_at hz
      have z4 : wa.cell? ⟨X, 4, none⟩ = some (.int .u16 z.tag) := cell_at hz
      have z5 : wa.cell? ⟨X, 5, none⟩ = some (.int .i64 z.fee) := cell_at hz
      have z6 : wa.cell? ⟨X, 6, none⟩ = some (.bool z.odd) := cell_at hz
      have HZ2 := Lib.hid hz
      clear hz HBA HB1 HZ1 HS
      go_wp2_with fail
      refine HOF.out.mono ?_
      rintro e w2 ⟨v1, rfl, hown, hb⟩
      rw [← HLL.out] at hown
      rw [← HSP.out, ← HSI.out]
      have HB3 := Lib.hid (HB2.out.trans (hb.mono HB2.out.size))
      have HZ3 := Lib.hid (stay HZ2.out hb)
      have HOWN := Lib.hid hown
      obtain ⟨B, hB⟩ : ∃ B, B = wa.heap.size := ⟨_, rfl⟩
      rw [← hB] at HOWN hX1
      have HBW := Lib.hid (show w.heap.size ≤ B by rw [hB]; exact HB2.out.size)
      have HB2S := Lib.hid (show B ≤ w2.heap.size by rw [hB]; exact hb.size)
      clear hb hown HB2 HOF z0 z1 z2 z3 z4 z5 z6 hB HZ2
      obtain ⟨a1, c1, hv1, -, -⟩ := ownsRow_shape HOWN.out.row
      subst hv1
      obtain ⟨n1, hn1⟩ : ∃ q, q = ll.length := ⟨_, rfl⟩
      rw [← hn1] at HOWN hlen ⊢
      have HN1 := Lib.hid hn1
      clear hn1
      go_upto_region 17 with fail
      have hz := heap_alloc_new w2 (.cells #[.string sp, .int .u32 si] 25)
      have hal : Below w2.heap.size w2 (w2.alloc (.cells #[.string sp, .int .u32 si] 25)) := (Below.refl _ _).alloc (Nat.le_refl _) _
      obtain ⟨P, hP⟩ : ∃ q, q = w2.heap.size := ⟨_, rfl⟩
      rw [← hP] at hz ⊢
      generalize w2.alloc (.cells #[.string sp, .int .u32 si] 25) = w3 at *
      have HB4 := Lib.hid (HB3.out.trans (hal.mono HB3.out.size))
      have HZ4 := Lib.hid (stay HZ3.out hal)
      have HS1 := Lib.hid (HOWN.out.below hal)
      have HP := Lib.hid hz
      have hPB : w2.heap.size ≤ P := by omega
      have HLO := Lib.hid (show ∀ b, (Value.slice a1 n1 c1).ownBlock = some b → b < P from fun b e => by
        have h1 := (HOWN.out.row.lt b e).2
        omega)
      clear hz hal hP HB3 HZ3 hPB
      go_wp2_with fail
      go_loopg [112] n1 (fun g i wr => ∃ k : Nat, g = n1 - k ∧ k ≤ n1 ∧ i = .int .i64 k ∧ Below B w3 wr ∧ wr.heap[P]? = some (.cells #[.string sp, .int .u32 si] 25 (0, 0)) ∧ ClsOwn B wr (.slice a1 n1 c1) ((ll.take k).map sizC ++ ll.drop k))
      case atStart => exact ⟨0, rfl, by omega, rfl, Below.refl _ _, HP.out, by simpa using HS1.out⟩
      case round =>
        rename World => wo
        obtain ⟨k, hgk, hk, rfl, hb, hp, hown⟩ := hrel
        have HGK := Lib.hid hgk
        have HB := Lib.hid hb
        have HPK := Lib.hid hp
        have HOW := Lib.hid hown
        clear hgk hb hp hown
        by_cases hlt : k < n1
        · obtain ⟨x, hx⟩ : ∃ x, ll[k]? = some x := ⟨_, List.getElem?_eq_getElem (by rw [← HN1.out]; exact hlt)⟩
          obtain ⟨b, rfl, hbB, hbs⟩ := HOW.out.some_ (by omega)
          have hxx := mapTo_at (f := sizC) hx
          obtain ⟨d0, d1, d2, d3, d4, d5, d6, d7⟩ := HOW.out.at hxx.1
          have hok := HOW.out.ok x (List.mem_of_getElem? hxx.1)
          have hfr : ∀ o, wo.frozen? ⟨b, o, none⟩ = false := fun o => HOW.out.free o
          obtain ⟨hh, hhh⟩ : ∃ q, q = x.lock.height % 1000001 := ⟨_, rfl⟩
          have hmod : ((x.lock.height : Int)).tmod 1000001 = (hh : Int) := by rw [Int.tmod_eq_emod_of_nonneg (by omega), hhh]; rfl
          have hv3r : 0 ≤ max 0 x.br % 3 ∧ max 0 x.br % 3 < 3 := by omega
          have hst := HOW.out.set3 hxx.1 (v2 := 1000) (v3 := max 0 x.br % 3) (hh := hh) (by decide) (by omega) (by omega)
          have hsx : sizC x = ⟨x.id, x.idx, 1000, max 0 x.br % 3, ⟨x.lock.tag, x.lock.delay, hh⟩, x.dead⟩ := by unfold sizC; rw [hhh]
          rw [← hsx, hxx.2] at hst
          have g3 : (wo.setCell ⟨b, k * 8 + 2, none⟩ (.int .i64 1000)).cell? ⟨b, k * 8 + 3, none⟩ = some (.int .i64 x.br) := by
            rw [World.cell?_setCell_other _ _ _ _ (fun e => by injection e with _ e; omega)]; exact d3
          have g6 : ((wo.setCell ⟨b, k * 8 + 2, none⟩ (.int .i64 1000)).setCell ⟨b, k * 8 + 3, none⟩ (.int .i64 (max 0 x.br % 3))).cell? ⟨b, k * 8 + 6, none⟩ = some (.int .u32 x.lock.height) := by
            rw [World.cell?_setCell_other _ _ _ _ (fun e => by injection e with _ e; omega), World.cell?_setCell_other _ _ _ _ (fun e => by injection e with _ e; omega)]; exact d6
          have HST := Lib.hid (drew_own hst)
          have HB5 := Lib.hid ((((HB.out.setCell (p := ⟨b, k * 8 + 2, none⟩) hbB (.int .i64 1000)).setCell (p := ⟨b, k * 8 + 3, none⟩) hbB (.int .i64 (max 0 x.br % 3))).setCell (p := ⟨b, k * 8 + 6, none⟩) hbB (.int .u32 hh)).trans ((drew_bel _).mono (by simp; omega)))
          clear hst hsx hxx hx hok hhh hv3r
          go_upto_region 20 with fail
          go_region
          go_wp2_with fail
          go_roundg (n1 - (k + 1))
          case measure => have := HGK.out; omega
          case rel => exact ⟨k + 1, rfl, by omega, by go_num, HB5.out, by
            show ((((wo.setCell _ _).setCell _ _).setCell _ _).drew).heap[P]? = _
            have hne : P ≠ b := fun e => by have := HLO.out b rfl; omega
            exact (Below.heap_setCell _ _ _ _ hne).trans ((Below.heap_setCell _ _ _ _ hne).trans ((Below.heap_setCell _ _ _ _ hne).trans HPK.out)), HST.out⟩
        · obtain rfl : n1 = k := by omega
          have HNL := Lib.hid (show ClsOwn B wo (.slice a1 n1 c1) (ll.map sizC) from by
            have h := HOW.out
            rw [List.take_of_length_le (by rw [← HN1.out]; exact Nat.le_refl _), List.drop_eq_nil_of_le (by rw [← HN1.out]; exact Nat.le_refl _), List.append_nil] at h
            exact h)
          have hml : (ll.map sizC).length = n1 := by rw [List.length_map, HN1.out]
          obtain ⟨lx, hlx⟩ : ∃ lx, lx = ll.map sizC := ⟨_, rfl⟩
          rw [← hlx] at HNL hml
          have HML := Lib.hid hml
          have hz : wo.heap[X]? = some (.cells #[.slice va n0 vc, .string z.pid, .int .u32 z.pidx, .int .i64 z.val, .int .u16 z.tag, .int .i64 z.fee, .bool z.odd] 28 (0, 0)) := (HB.out.block X hX1).trans HZ4.out
          have z4 : wo.cell? ⟨X, 4, none⟩ = some (.int .u16 z.tag) := cell_at hz
          have q0 : wo.cell? ⟨P, 0, none⟩ = some (.string sp) := cell_at HPK.out
          have q1 : wo.cell? ⟨P, 1, none⟩ = some (.int .u32 si) := cell_at HPK.out
          have HBO := Lib.hid (HB4.out.trans (HB.out.mono HBW.out))
          have HQ := Lib.hid (claimB_any (.slice a1 n1 c1) lx sp si 1000 ⟨#[]⟩ 0 z.tag 0 wo HNL.out.sl (by omega) HPL.out hpi (by decide) HTAG.out)
          unfold enV at HQ
          have hcl := claims_ok (l := lx) (cid := sp) (ci := si) (tag := z.tag) (cv := 1000) (fee := 0)
          generalize claimsOf lx sp si 1000 z.tag 0 = res at *
          obtain ⟨t, er⟩ := res
          have HCL := Lib.hid hcl
          clear hlx hml hz HOW HB4 HNL HS1 HLO hcl
          go_wp2_with fail
          refine HQ.out.mono ?_
          rintro e w5 ⟨v1, rfl, htx, hb⟩
          have HB5 := Lib.hid (HBO.out.trans (hb.mono HBO.out.size))
          have HTX := Lib.hid htx.at
          obtain ⟨a1', b1, a2', b2, rfl⟩ := htx.at.shapeK
          clear hb htx HQ HBO q0 q1 z4
          dsimp only at HCL ⊢
          by_cases her : er = 0
          · obtain ⟨⟨hl1, hl2⟩, vv, -, -, heq, hck⟩ := HCL.out her
            obtain ⟨rfl, rfl⟩ := Prod.mk.inj heq
            have hsz := claim_size hl2 hck
            have ho1 : (claimTx lx sp si z.tag vv).outs.length ≤ 1000 := by show 1 ≤ 1000; decide
            have HSZ := Lib.hid (fun v y (h : TxAt y v (claimTx lx sp si z.tag vv)) => isize_any v (claimTx lx sp si z.tag vv) y h ho1)
            rw [hsz, hck, HML.out] at HSZ
            have hn11 : 1 ≤ n1 ∧ n1 ≤ 32 := by rw [← HML.out]; exact ⟨hl1, hl2⟩
            have hs : sizeS n1 = (sizeN n1, 0) := by unfold sizeS; rw [if_pos (by omega), show ((n1 : Nat) : Int).toNat = n1 by omega]
            have HK := Lib.hid (fun y => ksize_any n1 y)
            rw [hs] at HK
            dsimp only at HK
            generalize sizeN n1 = sz at *
            generalize claimTx lx sp si z.tag vv = t at *
            generalize t.ins.length = m1 at *
            generalize t.outs.length = m2 at *
            clear hsz ho1 hn11 hs hck hl1 hl2 her heq
            go_upto_region 23 with fail
            have hz := heap_alloc_new w5 (.cells #[.int .u32 t.ver, .slice a1' m1 b1, .slice a2' m2 b2, .int .u32 t.lock] 44)
            have hal : Below w5.heap.size w5 (w5.alloc (.cells #[.int .u32 t.ver, .slice a1' m1 b1, .slice a2' m2 b2, .int .u32 t.lock] 44)) := (Below.refl _ _).alloc (Nat.le_refl _) _
            obtain ⟨T, hT⟩ : ∃ q, q = w5.heap.size := ⟨_, rfl⟩
            rw [← hT] at hz ⊢
            generalize w5.alloc (.cells #[.int .u32 t.ver, .slice a1' m1 b1, .slice a2' m2 b2, .int .u32 t.lock] 44) = w6 at *
            have HB6 := Lib.hid (HB5.out.trans (hal.mono HB5.out.size))
            have HSZ := Lib.hid (HSZ.out _ w6 (HTX.out.below hal))
            have t0 : w6.cell? ⟨T, 0, none⟩ = some (.int .u32 t.ver) := cell_at hz
            have t1 : w6.cell? ⟨T, 1, none⟩ = some (.slice a1' m1 b1) := cell_at hz
            have t2 : w6.cell? ⟨T, 2, none⟩ = some (.slice a2' m2 b2) := cell_at hz
            have t3 : w6.cell? ⟨T, 3, none⟩ = some (.int .u32 t.lock) := cell_at hz
            clear hz hal hT HB5 HTX
            go_wp2_with fail
            refine HSZ.out.mono ?_
            rintro e w7 ⟨rfl, hb⟩
            have HB7 := Lib.hid (HB6.out.trans (hb.mono HB6.out.size))
            clear hb HSZ t0 t1 t2 t3
            go_wp2_with fail
            refine (HK.out w7).mono ?_
            rintro e w8 ⟨rfl, hb⟩
            have HB8 := Lib.hid (HB7.out.trans (hb.mono HB7.out.size))
            clear hb
            go_wp2_with fail
            refine (wakes25_any w8).mono ?_
            rintro e w9 ⟨rfl, hb⟩
            have HB9 := Lib.hid (HB8.out.trans (hb.mono HB8.out.size))
            clear hb
            go_wp2_with fail
            go_ret
            exact ⟨rfl, HB9.out⟩
          · have hne : (er == 0) = false := by rw [beq_eq_false_iff_ne]; exact her
            generalize t.ins.length = m1 at *
            generalize t.outs.length = m2 at *
            clear her
            go_upto_region 23 with fail
            have hal := Below.alloc (Below.refl w5.heap.size w5) (Nat.le_refl _) (.cells #[.int .u32 t.ver, .slice a1' m1 b1, .slice a2' m2 b2, .int .u32 t.lock] 44)
            have HB6 := Lib.hid (HB5.out.trans (hal.mono HB5.out.size))
            clear hal
            go_wp2_with fail
            refine (wakes25_any _).mono ?_
            rintro e w9 ⟨rfl, hb⟩
            have HB9 := Lib.hid (HB6.out.trans (hb.mono HB6.out.size))
            clear hb
            go_wp2_with fail
            go_ret
            exact ⟨rfl, HB9.out⟩
theorem claimSizes_at (v : Value) (q : Value × List PCl × PRw) (rt n : Int) (w : World) (h : RawAt w v q) (hr : (Lit.int .i64 rt).wf = true) (hn : (Lit.int .i64 n).wf = true) : Calls Tryz.prog 4 #[v, .int .i64 rt, .int .i64 n] w (BIs true w) := by
  obtain ⟨rfl, h1, h2⟩ := h
  exact claimSizes_walk q.1 q.2.1 q.2.2 rt n w h1 h2 (wf_i64 hr) (wf_i64 hn)
end Go.Proofs.YtmakghcoehkphaaGreat
