/-
  RecPuts, part 10: the texts El, Eb, Em, EF4, En, Ep, Eq, TxVs, Rc, Rd, one after another. Conditions: none beyond those named at each.
-/
import Derived.Test.YtaooibocknemkaaGreatEl1
import Derived.Test.YtaooibocknemkaaGreatEl2
import Derived.Test.YtaooibocknemkaaGreatEl3
import Derived.Test.YtaooibocknemkaaGreatEl4
import Derived.Test.YtaooibocknemkaaGreatQ4RecPuts
import Derived.Test.YtaooibocknemkaaGreatQ1RecPuts
import Derived.Test.YtaooibocknemkaaGreatEj
import Derived.Test.YtaooibocknemkaaGreatQ8RecPuts
import Derived.Test.YtaooibocknemkaaGreatQ7RecPuts
import Derived.Test.YtaooibocknemkaaGreatRb
import Derived.Test.YtaooibocknemkaaGreatCut
section
namespace Go.Proofs.YtaooibocknemkaaGreat
open Go.RowKit Go.BigFrame
set_option linter.unusedVariables false
set_option linter.unusedSimpArgs false
theorem payload_any (v1 : Value) (r : PRec) (w : World) (h1 : RecAt w v1 r) (hk : kinded r) (hg : Ranged r) : Calls Tryz.prog 39 #[v1] w (SIs (payL r) w) := by
  by_cases k1 : r.kind = 1
  · exact pay_k1 v1 r w h1 hg k1
  by_cases k2 : r.kind = 2
  · exact pay_k2 v1 r w h1 hg k2
  by_cases k3 : r.kind = 3
  · exact pay_k3 v1 r w h1 hg k3
  by_cases k4 : r.kind = 4
  · exact pay_k4 v1 r w h1 hg k4
  exact pay_k5 v1 r w h1 hg (by have := hk.1; have := hk.2; omega)
end Go.Proofs.YtaooibocknemkaaGreat
end

section
namespace Go.Proofs.YtaooibocknemkaaGreat
open Go.RowKit Go.BigFrame
open Go.Lib (hid)
set_option linter.unusedVariables false
set_option linter.unusedSimpArgs false

theorem and_one (c : W32) : bits .and .u32 (nv c) 1 = if lsb c = true then 1 else 0 := by
  have h : nv (1 : W32) = 1 := by decide
  have e := nv_and c 1
  rw [h] at e
  rw [e]
  have h2 : c &&& 1 = if lsb c = true then 1 else 0 := by
    apply BitVec.eq_of_toNat_eq
    rw [BitVec.toNat_and]
    have h3 : (1 : W32).toNat = 1 := rfl
    rw [h3, Nat.and_one_is_mod, lsb_nat]
    split <;> rfl
  rw [h2]
  split <;> rfl
theorem mod_two (c : W32) : nv c % 2 = if lsb c = true then 1 else 0 := by
  have := lsb_nat c
  unfold nv
  split
  · rename_i h; rw [h] at this; simp at this; omega
  · rename_i h; rw [if_neg h] at this; omega
theorem tmod_two (c : W32) : (nv c).tmod 2 = if lsb c = true then 1 else 0 := by
  rw [Int.tmod_eq_emod_of_nonneg (nv_range c).1, mod_two]
theorem half_word (c : W32) : nv c / (2 : Int) = nv (c >>> 1) := by
  have h := nv_shr c 1
  rw [show (2 : Int) ^ 1 = 2 from rfl] at h
  exact h
theorem thalf_word (c : W32) : (nv c).tdiv (2 : Int) = nv (c >>> 1) := by rw [Int.tdiv_eq_ediv_of_nonneg (nv_range c).1, half_word]
theorem xor_poly (c : W32) : bits .xor .u32 (nv c) 2197175160 = nv (c ^^^ poly) := by
  have h : nv poly = 2197175160 := by decide
  have e := nv_xor c poly
  rw [h] at e
  exact e
theorem not_sub (c : W32) : 4294967295 - nv c = nv (~~~ c) := by
  unfold nv
  rw [BitVec.toNat_not]
  have := bv_lt c
  omega
theorem by_word (b : UInt8) : ((b.toNat : Nat) : Int) = nv (byW b) := by
  unfold nv byW
  have := b.toNat_lt
  rw [BitVec.toNat_ofNat]
  omega
theorem by_at {s : ByteArray} {k : Nat} (h : k < s.size) : s.data.toList[k]? = some (s[k]'h) := by
  rw [List.getElem?_eq_getElem (by simpa using h)]
  rfl
theorem all_take (s : ByteArray) : s.data.toList.take s.size = s.data.toList := List.take_of_length_le (by simp)
set_option maxRecDepth 100000 in
set_option maxHeartbeats 2000000 in
theorem recsum_any (s : ByteArray) (hs : s.size ≤ 9223372036854775806) (w : World) : Calls Tryz.prog 42 #[.string s] w (fun e w' => e = .returned (.int .u32 (nv (crcL s.data.toList))) ∧ w = w') := by
  go_enter Tryz.func42, Tryz.ntmps42
  go_wp2_with fail
  go_loopg [3, 8] s.size (fun g c i wr => ∃ k : Nat, g = s.size - k ∧ k ≤ s.size ∧ i = .int .i64 k ∧ c = .int .u32 (nv (crcS (s.data.toList.take k))) ∧ w = wr)
  case atStart => exact ⟨0, by omega, by omega, rfl, rfl, rfl⟩
  case round =>
    obtain ⟨k, hgk, hk, rfl, rfl, rfl⟩ := hrel
    have HGK := hid hgk
    clear hgk
    by_cases hlt : k < s.size
    · obtain ⟨b, hb⟩ : ∃ b, b = s[k] := ⟨_, rfl⟩
      have HSN := hid (hb ▸ crcS_snoc (by_at hlt))
      have hbw := by_word b
      obtain ⟨x, hx⟩ : ∃ x, x = crcS (s.data.toList.take k) := ⟨_, rfl⟩
      rw [← hx] at HSN ⊢
      have hbr := nv_range (byW b)
      have hwr : IntKind.u32.wrap (nv (byW b)) = nv (byW b) := by rw [IntKind.wrap_u32]; omega
      have hbk : s[k].toNat = b.toNat := by rw [hb]
      clear hx hb
      go_wp2_with fail
      obtain ⟨y, hy⟩ : ∃ y, y = x ^^^ byW b := ⟨_, rfl⟩
      rw [← hy]
      have HY := hid hy
      clear hy hbr hwr hbk hbw
      go_loopg [3, 17] 8 (fun g c i wr => ∃ j : Nat, g = 8 - j ∧ j ≤ 8 ∧ i = .int .i64 j ∧ c = .int .u32 (nv (crcBits j y)) ∧ w = wr)
      case atStart => exact ⟨0, by omega, by omega, rfl, rfl, rfl⟩
      case round =>
        obtain ⟨j, hgj, hj, rfl, rfl, rfl⟩ := hrel
        have HGJ := hid hgj
        clear hgj
        by_cases hlj : j < 8
        · obtain ⟨z, hz⟩ : ∃ z, z = crcBits j y := ⟨_, rfl⟩
          have HZ := hid (show crcBits (j + 1) y = crcBit z by rw [hz]; rfl)
          rw [← hz]
          have ha := and_one z
          have hh := half_word z
          have hp := xor_poly (z >>> 1)
          have hr1 := nv_range z
          clear hz
          cases hl : lsb z
          · rw [hl, if_neg (by decide)] at ha
            have HN := hid (show crcBit z = z >>> 1 by unfold crcBit; rw [hl, if_neg (by decide)])
            clear hl
            go_wp2_with fail
            go_roundg (8 - (j + 1))
            case measure => have := HGJ.out; omega
            case rel => exact ⟨j + 1, rfl, by omega, by go_num, by rw [HZ.out, HN.out], rfl⟩
          · rw [hl, if_pos rfl] at ha
            have HN := hid (show crcBit z = (z >>> 1) ^^^ poly by unfold crcBit; rw [hl, if_pos rfl])
            clear hl
            go_wp2_with fail
            go_roundg (8 - (j + 1))
            case measure => have := HGJ.out; omega
            case rel => exact ⟨j + 1, rfl, by omega, by go_num, by rw [HZ.out, HN.out], rfl⟩
        · obtain rfl : j = 8 := by omega
          go_wp2_with fail
          go_roundg (s.size - (k + 1))
          case measure => have := HGK.out; omega
          case rel => exact ⟨k + 1, rfl, by omega, by go_num, by rw [HSN.out, HY.out]; rfl, rfl⟩
    · obtain rfl : s.size = k := by omega
      rw [all_take]
      have hn := bv_not (crcS s.data.toList)
      have hr := nv_range (crcS s.data.toList)
      go_wp2_with fail
      go_ret
      exact ⟨ret_int hn, rfl⟩
set_option maxRecDepth 100000 in
set_option maxHeartbeats 2000000 in
theorem rrecsum_any (s : ByteArray) (hs : s.size ≤ 9223372036854775806) (w : World) : Calls Tryz.prog 49 #[.string s] w (fun e w' => e = .returned (.int .u32 (nv (crcL s.data.toList))) ∧ w = w') := by
  go_enter Tryz.func49, Tryz.ntmps49
  go_wp2_with fail
  go_loopg [3, 4] s.size (fun g c i wr => ∃ k : Nat, g = s.size - k ∧ k ≤ s.size ∧ i = .int .i64 k ∧ c = .int .u32 (nv (crcS (s.data.toList.take k))) ∧ w = wr)
  case atStart => exact ⟨0, by omega, by omega, rfl, rfl, rfl⟩
  case round =>
    obtain ⟨k, hgk, hk, rfl, rfl, rfl⟩ := hrel
    have HGK := hid hgk
    clear hgk
    by_cases hlt : k < s.size
    · obtain ⟨b, hb⟩ : ∃ b, b = s[k] := ⟨_, rfl⟩
      have HSN := hid (hb ▸ crcS_snoc (by_at hlt))
      have hbw := by_word b
      obtain ⟨x, hx⟩ : ∃ x, x = crcS (s.data.toList.take k) := ⟨_, rfl⟩
      rw [← hx] at HSN ⊢
      have hbr := nv_range (byW b)
      have hwr : IntKind.u32.wrap (nv (byW b)) = nv (byW b) := by rw [IntKind.wrap_u32]; omega
      have hbk : s[k].toNat = b.toNat := by rw [hb]
      clear hx hb
      go_wp2_with fail
      obtain ⟨y, hy⟩ : ∃ y, y = x ^^^ byW b := ⟨_, rfl⟩
      rw [← hy]
      have HY := hid hy
      clear hy hbr hwr hbk hbw
      go_loopg [3, 5] 8 (fun g c i wr => ∃ j : Nat, g = 8 - j ∧ j ≤ 8 ∧ i = .int .i64 j ∧ c = .int .u32 (nv (crcBits j y)) ∧ w = wr)
      case atStart => exact ⟨0, by omega, by omega, rfl, rfl, rfl⟩
      case round =>
        obtain ⟨j, hgj, hj, rfl, rfl, rfl⟩ := hrel
        have HGJ := hid hgj
        clear hgj
        by_cases hlj : j < 8
        · obtain ⟨z, hz⟩ : ∃ z, z = crcBits j y := ⟨_, rfl⟩
          have HZ := hid (show crcBits (j + 1) y = crcBit z by rw [hz]; rfl)
          rw [← hz]
          have ha := tmod_two z
          have ha2 := mod_two z
          have hh := half_word z
          have hh2 := thalf_word z
          have hp := xor_poly (z >>> 1)
          have hr1 := nv_range z
          have hr2 := nv_range (z >>> 1)
          have hw2 : IntKind.u32.wrap (nv (z >>> 1)) = nv (z >>> 1) := by rw [IntKind.wrap_u32]; omega
          clear hz
          cases hl : lsb z
          · rw [hl, if_neg (by decide)] at ha ha2
            have HN := hid (show crcBit z = z >>> 1 by unfold crcBit; rw [hl, if_neg (by decide)])
            clear hl
            go_wp2_with fail
            go_roundg (8 - (j + 1))
            case measure => have := HGJ.out; omega
            case rel => exact ⟨j + 1, rfl, by omega, by go_num, by rw [HZ.out, HN.out], rfl⟩
          · rw [hl, if_pos rfl] at ha ha2
            have HN := hid (show crcBit z = (z >>> 1) ^^^ poly by unfold crcBit; rw [hl, if_pos rfl])
            clear hl
            go_wp2_with fail
            go_roundg (8 - (j + 1))
            case measure => have := HGJ.out; omega
            case rel => exact ⟨j + 1, rfl, by omega, by go_num, by rw [HZ.out, HN.out], rfl⟩
        · obtain rfl : j = 8 := by omega
          go_wp2_with fail
          go_roundg (s.size - (k + 1))
          case measure => have := HGK.out; omega
          case rel => exact ⟨k + 1, rfl, by omega, by go_num, by rw [HSN.out, HY.out]; rfl, rfl⟩
    · obtain rfl : s.size = k := by omega
      rw [all_take]
      have hn := not_sub (crcS s.data.toList)
      have hr := nv_range (crcS s.data.toList)
      have hr2 := nv_range (~~~ crcS s.data.toList)
      have hw2 : IntKind.u32.wrap (nv (~~~ crcS s.data.toList)) = nv (~~~ crcS s.data.toList) := by rw [IntKind.wrap_u32]; omega
      go_wp2_with fail
      go_ret
      exact ⟨rfl, rfl⟩
end Go.Proofs.YtaooibocknemkaaGreat
end

section
namespace Go.Proofs.YtaooibocknemkaaGreat
open Go.RowKit Go.BigFrame
open Go.Lib (hid)
set_option linter.unusedVariables false
set_option linter.unusedSimpArgs false
noncomputable def putE (r : PRec) : ByteArray := if checkR r = 0 then bL (putL r) else bL []
set_option maxRecDepth 100000 in
set_option maxHeartbeats 8000000 in
theorem recput_any (v1 : Value) (r : PRec) (w : World) (h1 : RecAt w v1 r) (hlen : r.tx.outs.length ≤ 1000) : Calls Tryz.prog 10 #[v1] w (TIs (putE r) (checkR r) w) := by
  obtain ⟨va, vb, rfl, hi1, ho1, hk1⟩ := h1
  have HI := hid hi1
  have HO := hid ho1
  have HK := hid hk1
  obtain ⟨ia, ic, rfl, -, -⟩ := hi1.shape
  obtain ⟨oa, oc, rfl, -, -⟩ := ho1.shape
  obtain ⟨n1, hn1⟩ : ∃ n, n = r.tx.ins.length := ⟨_, rfl⟩
  obtain ⟨n2, hn2⟩ : ∃ n, n = r.tx.outs.length := ⟨_, rfl⟩
  have HR := hid (show RecAt w (.agg #[.int .i64 r.kind, .int .i64 r.num, .int .u32 r.tx.ver, .slice ia n1 ic, .slice oa n2 oc, .int .u32 r.tx.lock, .int .i64 r.index, .string r.id, .int .u32 r.idx, .int .i64 r.val, .int .i64 r.br, .int .u16 r.tag, .int .u16 r.delay, .int .u32 r.height, .int .i64 r.dead, .int .i64 r.budget, .int .i64 r.start, .int .i64 r.fee]) r from ⟨_, _, by rw [hn1, hn2], hi1, ho1, hk1⟩)
  rw [← hn1, ← hn2]
  rw [← hn1] at HI
  rw [← hn2] at HO
  have HC := hid (show ∀ y : World, RecAt y (.agg #[.int .i64 r.kind, .int .i64 r.num, .int .u32 r.tx.ver, .slice ia n1 ic, .slice oa n2 oc, .int .u32 r.tx.lock, .int .i64 r.index, .string r.id, .int .u32 r.idx, .int .i64 r.val, .int .i64 r.br, .int .u16 r.tag, .int .u16 r.delay, .int .u32 r.height, .int .i64 r.dead, .int .i64 r.budget, .int .i64 r.start, .int .i64 r.fee]) r → Calls Tryz.prog 12 #[.agg #[.int .i64 r.kind, .int .i64 r.num, .int .u32 r.tx.ver, .slice ia n1 ic, .slice oa n2 oc, .int .u32 r.tx.lock, .int .i64 r.index, .string r.id, .int .u32 r.idx, .int .i64 r.val, .int .i64 r.br, .int .u16 r.tag, .int .u16 r.delay, .int .u32 r.height, .int .i64 r.dead, .int .i64 r.budget, .int .i64 r.start, .int .i64 r.fee]] y (CIs (checkR r) y) from fun y h => reccheck_any _ r y h hlen)
  clear HI HO HK hk1 hn1 hn2 hi1 ho1 hlen
  by_cases hc : checkR r = 0
  · have q : putE r = bL (putL r) := by unfold putE; rw [if_pos hc]
    rw [q, hc]
    rw [hc] at HC
    obtain ⟨z1, z2, z3⟩ := checkR_zero hc
    obtain ⟨p, hp⟩ : ∃ s, s = bL (payL r) := ⟨_, rfl⟩
    have qp : p.size ≤ 150105 := by rw [hp, bL_size]; exact (payL_le hc).2
    have HPY := hid (show ∀ y : World, RecAt y (.agg #[.int .i64 r.kind, .int .i64 r.num, .int .u32 r.tx.ver, .slice ia n1 ic, .slice oa n2 oc, .int .u32 r.tx.lock, .int .i64 r.index, .string r.id, .int .u32 r.idx, .int .i64 r.val, .int .i64 r.br, .int .u16 r.tag, .int .u16 r.delay, .int .u32 r.height, .int .i64 r.dead, .int .i64 r.budget, .int .i64 r.start, .int .i64 r.fee]) r → Calls Tryz.prog 39 #[.agg #[.int .i64 r.kind, .int .i64 r.num, .int .u32 r.tx.ver, .slice ia n1 ic, .slice oa n2 oc, .int .u32 r.tx.lock, .int .i64 r.index, .string r.id, .int .u32 r.idx, .int .i64 r.val, .int .i64 r.br, .int .u16 r.tag, .int .u16 r.delay, .int .u32 r.height, .int .i64 r.dead, .int .i64 r.budget, .int .i64 r.start, .int .i64 r.fee]] y (fun e w' => e = .returned (.string p) ∧ Below y.heap.size y w') from fun y h => by rw [hp]; exact payload_any _ r y h z1 z3)
    obtain ⟨n4, hn4⟩ : ∃ s, s = bL (leB p.size 4) := ⟨_, rfl⟩
    have q4 : n4.size = 4 := by rw [hn4, bL_size, leB_length]
    have HN4 := hid (show ∀ y : World, Calls Tryz.prog 40 #[.int .i64 p.size, .int .i64 4] y (fun e w' => e = .returned (.string n4) ∧ Below y.heap.size y w') from fun y => by rw [hn4]; exact recnum_any p.size 4 (by omega) (by omega) (.inr (.inr (.inl rfl))) y)
    obtain ⟨cs, hcs⟩ : ∃ n : Nat, n = (crcL (payL r)).toNat := ⟨_, rfl⟩
    have hcl : cs < 4294967296 := by rw [hcs]; exact (crcL (payL r)).isLt
    have hwc : IntKind.u64.wrap (cs : Int) = cs := by rw [IntKind.wrap_u64]; omega
    obtain ⟨c4, hc4⟩ : ∃ s, s = bL (leB cs 4) := ⟨_, rfl⟩
    have qc : c4.size = 4 := by rw [hc4, bL_size, leB_length]
    have HC4 := hid (show ∀ y : World, Calls Tryz.prog 41 #[.int .u64 cs, .int .i64 4] y (fun e w' => e = .returned (.string c4) ∧ Below y.heap.size y w') from fun y => by rw [hc4]; exact oput_any cs 4 (by omega) (.inr (.inr (.inl rfl))) y)
    have HSM := hid (show ∀ y : World, Calls Tryz.prog 42 #[.string p] y (fun e w' => e = .returned (.int .u32 cs) ∧ y = w') from fun y => by
      have e : nv (crcL p.data.toList) = (cs : Int) := by rw [hp, bL_list, hcs]; rfl
      have h := recsum_any p (by omega) y
      rw [e] at h
      exact h)
    have HS := hid (show n4 ++ c4 ++ p = bL (putL r) from by
      rw [hn4, hc4, hcs, hp, bL_size]; simp only [bL_app]; unfold putL; simp only [List.append_assoc])
    clear hc q z1 z2 z3 hp hn4 hcs hc4
    go_enter Tryz.func10, Tryz.ntmps10
    go_upto_region 1 with fail
    have hz := heap_alloc_new w (.cells #[.int .i64 r.kind, .int .i64 r.num, .int .u32 r.tx.ver, .slice ia n1 ic, .slice oa n2 oc, .int .u32 r.tx.lock, .int .i64 r.index, .string r.id, .int .u32 r.idx, .int .i64 r.val, .int .i64 r.br, .int .u16 r.tag, .int .u16 r.delay, .int .u32 r.height, .int .i64 r.dead, .int .i64 r.budget, .int .i64 r.start, .int .i64 r.fee] 35)
    have hal : Below w.heap.size w (w.alloc (.cells #[.int .i64 r.kind, .int .i64 r.num, .int .u32 r.tx.ver, .slice ia n1 ic, .slice oa n2 oc, .int .u32 r.tx.lock, .int .i64 r.index, .string r.id, .int .u32 r.idx, .int .i64 r.val, .int .i64 r.br, .int .u16 r.tag, .int .u16 r.delay, .int .u32 r.height, .int .i64 r.dead, .int .i64 r.budget, .int .i64 r.start, .int .i64 r.fee] 35)) := (Below.refl _ _).alloc (Nat.le_refl _) _
    obtain ⟨X, hX⟩ : ∃ q, q = w.heap.size := ⟨_, rfl⟩
    rw [← hX] at hz ⊢
    generalize w.alloc (.cells #[.int .i64 r.kind, .int .i64 r.num, .int .u32 r.tx.ver, .slice ia n1 ic, .slice oa n2 oc, .int .u32 r.tx.lock, .int .i64 r.index, .string r.id, .int .u32 r.idx, .int .i64 r.val, .int .i64 r.br, .int .u16 r.tag, .int .u16 r.delay, .int .u32 r.height, .int .i64 r.dead, .int .i64 r.budget, .int .i64 r.start, .int .i64 r.fee] 35) = w0 at *
    have HB := hid hal
    have HR := hid (HR.out.below hal)
    have HZ0 := hid hz
    clear hz hal hX
    go_wp2_with (first
      | (refine wpList_load_row rfl 35 (.tmp 1) rfl X rfl 35 _ (0, 0) _ HZ0.out Tryz.underlying35 rfl (by kernel_rfl) ?_))
    refine (HC.out w0 HR.out).mono ?_
    rintro e w1 ⟨rfl, hb⟩
    have HB := hid (HB.out.trans (hb.mono HB.out.size))
    have HR := hid (HR.out.below hb)
    have HZ0 := hid ((hb.block X (Array.getElem?_eq_some_iff.1 HZ0.out).1).trans HZ0.out)
    clear hb HC
    go_wp2_with (first
      | (refine wpList_load_row rfl 35 (.tmp 1) rfl X rfl 35 _ (0, 0) _ HZ0.out Tryz.underlying35 rfl (by kernel_rfl) ?_))
    refine (HPY.out w1 HR.out).mono ?_
    rintro e w2 ⟨rfl, hb⟩
    have HB := hid (HB.out.trans (hb.mono HB.out.size))
    clear hb HPY HR HZ0
    go_wp2_with fail
    refine (HN4.out w2).mono ?_
    rintro e w3 ⟨rfl, hb⟩
    have HB := hid (HB.out.trans (hb.mono HB.out.size))
    clear hb HN4
    go_wp2_with fail
    refine (HSM.out w3).mono ?_
    rintro e w4 ⟨rfl, rfl⟩
    go_wp2_with fail
    refine (HC4.out w3).mono ?_
    rintro e w5 ⟨rfl, hb⟩
    have HB := hid (HB.out.trans (hb.mono HB.out.size))
    clear hb HC4 HSM
    go_wp2_with fail
    exact bodyPost_ret (v := .tuple #[.string (n4 ++ c4 ++ p), .int .i64 0]) (by simp [results, Tryz.results10, go_sem]) rfl ⟨by rw [HS.out], HB.out⟩
  · have q : putE r = bL [] := by unfold putE; rw [if_neg hc]
    rw [q]
    obtain ⟨c, hcc⟩ : ∃ c, c = checkR r := ⟨_, rfl⟩
    rw [← hcc] at HC hc ⊢
    have cne : (c == 0) = false := by rw [beq_eq_false_iff_ne]; exact hc
    clear hc q hcc
    go_enter Tryz.func10, Tryz.ntmps10
    go_upto_region 1 with fail
    have hz := heap_alloc_new w (.cells #[.int .i64 r.kind, .int .i64 r.num, .int .u32 r.tx.ver, .slice ia n1 ic, .slice oa n2 oc, .int .u32 r.tx.lock, .int .i64 r.index, .string r.id, .int .u32 r.idx, .int .i64 r.val, .int .i64 r.br, .int .u16 r.tag, .int .u16 r.delay, .int .u32 r.height, .int .i64 r.dead, .int .i64 r.budget, .int .i64 r.start, .int .i64 r.fee] 35)
    have hal : Below w.heap.size w (w.alloc (.cells #[.int .i64 r.kind, .int .i64 r.num, .int .u32 r.tx.ver, .slice ia n1 ic, .slice oa n2 oc, .int .u32 r.tx.lock, .int .i64 r.index, .string r.id, .int .u32 r.idx, .int .i64 r.val, .int .i64 r.br, .int .u16 r.tag, .int .u16 r.delay, .int .u32 r.height, .int .i64 r.dead, .int .i64 r.budget, .int .i64 r.start, .int .i64 r.fee] 35)) := (Below.refl _ _).alloc (Nat.le_refl _) _
    obtain ⟨X, hX⟩ : ∃ q, q = w.heap.size := ⟨_, rfl⟩
    rw [← hX] at hz ⊢
    generalize w.alloc (.cells #[.int .i64 r.kind, .int .i64 r.num, .int .u32 r.tx.ver, .slice ia n1 ic, .slice oa n2 oc, .int .u32 r.tx.lock, .int .i64 r.index, .string r.id, .int .u32 r.idx, .int .i64 r.val, .int .i64 r.br, .int .u16 r.tag, .int .u16 r.delay, .int .u32 r.height, .int .i64 r.dead, .int .i64 r.budget, .int .i64 r.start, .int .i64 r.fee] 35) = w0 at *
    have HB := hid hal
    have HR := hid (HR.out.below hal)
    have HZ0 := hid hz
    clear hz hal hX
    go_wp2_with (first
      | (refine wpList_load_row rfl 35 (.tmp 1) rfl X rfl 35 _ (0, 0) _ HZ0.out Tryz.underlying35 rfl (by kernel_rfl) ?_))
    refine (HC.out w0 HR.out).mono ?_
    rintro e w1 ⟨rfl, hb⟩
    have HB := hid (HB.out.trans (hb.mono HB.out.size))
    clear hb HC HR HZ0
    go_wp2_with fail
    exact bodyPost_ret (v := .tuple #[.string ⟨#[]⟩, .int .i64 c]) (by simp [results, Tryz.results10, go_sem]) rfl ⟨rfl, HB.out⟩
end Go.Proofs.YtaooibocknemkaaGreat
end

section
namespace Go.Proofs.YtaooibocknemkaaGreat
open Go.RowKit Go.BigFrame
open Go.Lib (hid)
set_option linter.unusedVariables false
set_option linter.unusedSimpArgs false
set_option maxRecDepth 100000 in
set_option maxHeartbeats 8000000 in
theorem bytes26_any (v1 : Value) (r : PRec) (w : World) (h1 : RecAt w v1 r) (hc : checkR r = 0) : Calls Tryz.prog 13 #[v1] w (SIs (putL r) w) := by
  obtain ⟨z1, z2, z3⟩ := checkR_zero hc
  have HP0 := hid (fun (y : World) (h : RecAt y v1 r) => payload26_any v1 r y h z1 z3)
  have HR := hid h1
  obtain ⟨va, vb, rfl, hi1, ho1, hk1⟩ := h1
  obtain ⟨ia, ic, rfl, -, -⟩ := hi1.shape
  obtain ⟨oa, oc, rfl, -, -⟩ := ho1.shape
  obtain ⟨n1, hn1⟩ : ∃ n, n = r.tx.ins.length := ⟨_, rfl⟩
  obtain ⟨n2, hn2⟩ : ∃ n, n = r.tx.outs.length := ⟨_, rfl⟩
  rw [← hn1, ← hn2] at HP0 HR ⊢
  clear hi1 ho1 hk1 hn1 hn2
  obtain ⟨p, hp⟩ : ∃ s, s = bL (payL r) := ⟨_, rfl⟩
  have qp : p.size ≤ 150105 := by rw [hp, bL_size]; exact (payL_le hc).2
  obtain ⟨n4, hn4⟩ : ∃ s, s = bL (leB p.size 4) := ⟨_, rfl⟩
  have q4 : n4.size = 4 := by rw [hn4, bL_size, leB_length]
  have HN4 := hid (show ∀ y : World, Calls Tryz.prog 48 #[.int .i64 p.size, .int .i64 4] y (fun e w' => e = .returned (.string n4) ∧ Below y.heap.size y w') from fun y => by rw [hn4]; exact rn_any p.size 4 (by omega) (by omega) (.inr (.inr (.inl rfl))) y)
  obtain ⟨cs, hcs⟩ : ∃ n : Nat, n = (crcL (payL r)).toNat := ⟨_, rfl⟩
  have hcl : cs < 4294967296 := by rw [hcs]; exact (crcL (payL r)).isLt
  have hwc : IntKind.u64.wrap (cs : Int) = cs := by rw [IntKind.wrap_u64]; omega
  obtain ⟨c4, hc4⟩ : ∃ s, s = bL (leB cs 4) := ⟨_, rfl⟩
  have qc : c4.size = 4 := by rw [hc4, bL_size, leB_length]
  have HC4 := hid (show ∀ y : World, Calls Tryz.prog 50 #[.int .u64 cs, .int .i64 4] y (fun e w' => e = .returned (.string c4) ∧ Below y.heap.size y w') from fun y => by rw [hc4]; exact orput_any cs 4 (by omega) (.inr (.inr (.inl rfl))) y)
  have HSM := hid (show ∀ y : World, Calls Tryz.prog 49 #[.string p] y (fun e w' => e = .returned (.int .u32 cs) ∧ y = w') from fun y => by
    have e : nv (crcL p.data.toList) = (cs : Int) := by rw [hp, bL_list, hcs]; rfl
    have h := rrecsum_any p (by omega) y
    rw [e] at h
    exact h)
  have HS := hid (show n4 ++ c4 ++ p = bL (putL r) from by
    rw [hn4, hc4, hcs, hp, bL_size]; simp only [bL_app]; unfold putL; simp only [List.append_assoc])
  have HP := hid (show ∀ y : World, RecAt y (.agg #[.int .i64 r.kind, .int .i64 r.num, .int .u32 r.tx.ver, .slice ia n1 ic, .slice oa n2 oc, .int .u32 r.tx.lock, .int .i64 r.index, .string r.id, .int .u32 r.idx, .int .i64 r.val, .int .i64 r.br, .int .u16 r.tag, .int .u16 r.delay, .int .u32 r.height, .int .i64 r.dead, .int .i64 r.budget, .int .i64 r.start, .int .i64 r.fee]) r → Calls Tryz.prog 47 #[.agg #[.int .i64 r.kind, .int .i64 r.num, .int .u32 r.tx.ver, .slice ia n1 ic, .slice oa n2 oc, .int .u32 r.tx.lock, .int .i64 r.index, .string r.id, .int .u32 r.idx, .int .i64 r.val, .int .i64 r.br, .int .u16 r.tag, .int .u16 r.delay, .int .u32 r.height, .int .i64 r.dead, .int .i64 r.budget, .int .i64 r.start, .int .i64 r.fee]] y (fun e w' => e = .returned (.string p) ∧ Below y.heap.size y w') from fun y h => by rw [hp]; exact HP0.out y h)
  clear hc z1 z2 z3 hp hn4 hcs hc4 HP0
  go_enter Tryz.func13, Tryz.ntmps13
  go_upto_region 1 with fail
  have hz := heap_alloc_new w (.cells #[.int .i64 r.kind, .int .i64 r.num, .int .u32 r.tx.ver, .slice ia n1 ic, .slice oa n2 oc, .int .u32 r.tx.lock, .int .i64 r.index, .string r.id, .int .u32 r.idx, .int .i64 r.val, .int .i64 r.br, .int .u16 r.tag, .int .u16 r.delay, .int .u32 r.height, .int .i64 r.dead, .int .i64 r.budget, .int .i64 r.start, .int .i64 r.fee] 35)
  have hal : Below w.heap.size w (w.alloc (.cells #[.int .i64 r.kind, .int .i64 r.num, .int .u32 r.tx.ver, .slice ia n1 ic, .slice oa n2 oc, .int .u32 r.tx.lock, .int .i64 r.index, .string r.id, .int .u32 r.idx, .int .i64 r.val, .int .i64 r.br, .int .u16 r.tag, .int .u16 r.delay, .int .u32 r.height, .int .i64 r.dead, .int .i64 r.budget, .int .i64 r.start, .int .i64 r.fee] 35)) := (Below.refl _ _).alloc (Nat.le_refl _) _
  obtain ⟨X, hX⟩ : ∃ q, q = w.heap.size := ⟨_, rfl⟩
  rw [← hX] at hz ⊢
  generalize w.alloc (.cells #[.int .i64 r.kind, .int .i64 r.num, .int .u32 r.tx.ver, .slice ia n1 ic, .slice oa n2 oc, .int .u32 r.tx.lock, .int .i64 r.index, .string r.id, .int .u32 r.idx, .int .i64 r.val, .int .i64 r.br, .int .u16 r.tag, .int .u16 r.delay, .int .u32 r.height, .int .i64 r.dead, .int .i64 r.budget, .int .i64 r.start, .int .i64 r.fee] 35) = w0 at *
  have HB := hid hal
  have HR := hid (HR.out.below hal)
  have HZ0 := hid hz
  clear hz hal hX
  go_wp2_with (refine wpList_load_row rfl 35 (.tmp 1) rfl X rfl 35 _ (0, 0) _ HZ0.out Tryz.underlying35 rfl (by kernel_rfl) ?_)
  refine (HP.out w0 HR.out).mono ?_
  rintro e w1 ⟨rfl, hb⟩
  have HB := hid (HB.out.trans (hb.mono HB.out.size))
  clear hb
  go_wp2_with fail
  refine (HN4.out w1).mono ?_
  rintro e w2 ⟨rfl, hb⟩
  have HB := hid (HB.out.trans (hb.mono HB.out.size))
  clear hb
  go_wp2_with fail
  refine (HSM.out w2).mono ?_
  rintro e w3 ⟨rfl, rfl⟩
  go_wp2_with fail
  refine (HC4.out w2).mono ?_
  rintro e w4 ⟨rfl, hb⟩
  have HB := hid (HB.out.trans (hb.mono HB.out.size))
  clear hb
  go_wp2_with fail
  go_ret
  exact ⟨congrArg (fun s => Ending.returned (.string s)) HS.out, HB.out⟩
end Go.Proofs.YtaooibocknemkaaGreat
end

section
namespace Go.Proofs.YtaooibocknemkaaGreat
open Go.RowKit Go.BigFrame
open Go.Lib (hid)
set_option linter.unusedVariables false
set_option linter.unusedSimpArgs false
/-- A reader of a payload in a block. -/
def PdAt (b : Nat) (x : RdS) (w : World) : Prop := w.heap[b]? = some (.cells #[.string (bL x.t), .bool x.ok] 147 (0, 0))
theorem PdAt.lt {b : Nat} {x : RdS} {w : World} (h : PdAt b x w) : b < w.heap.size := (Array.getElem?_eq_some_iff.1 h).1
theorem PdAt.below {b : Nat} {x : RdS} {w w' : World} (h : PdAt b x w) (hb : Below w.heap.size w w') : PdAt b x w' := (hb.block b h.lt).trans h
/-- It returns this value, the reader stands so, all else is as it was. -/
def PdIs (b : Nat) (x : RdS) (v : Value) (w : World) (e : Ending) (w' : World) : Prop := e = .returned v ∧ PdAt b x w' ∧ Fr [b] w w'
theorem bL_take (l : List UInt8) (n : Nat) (h : n ≤ l.length) : (bL l).extract 0 n = bL (l.take n) := by
  apply ByteArray.ext
  unfold bL
  apply Array.ext'
  simp [List.extract_eq_take_drop]
theorem bL_drop (l : List UInt8) (n : Nat) : (bL l).extract n (bL l).size = bL (l.drop n) := by
  apply ByteArray.ext
  rw [bL_size]
  unfold bL
  apply Array.ext'
  simp [List.extract_eq_take_drop]
  rw [List.take_of_length_le (by simp)]
set_option maxRecDepth 100000 in
set_option maxHeartbeats 2000000 in
theorem take_any (b : Nat) (x : RdS) (n : Nat) (w : World) (h : PdAt b x w) (hn : n ≤ 9223372036854775000) (hl : x.t.length ≤ 9223372036854775000) :
    Calls Tryz.prog 139 #[.pointer (some ⟨b, 0, none⟩), .int .i64 n] w (PdIs b (takeR n x).1 (.string (bL (takeR n x).2)) w) := by
  obtain ⟨t, ok⟩ := x
  dsimp only at hl
  obtain ⟨s, hs⟩ : ∃ s, s = bL t := ⟨_, rfl⟩
  have hsz : s.size = t.length := by rw [hs, bL_size]
  have h' : w.heap[b]? = some (.cells #[.string s, .bool ok] 147 (0, 0)) := hs ▸ h
  have d0 : w.cell? ⟨b, 0, none⟩ = some (.string s) := cell_at h'
  have d1 : w.cell? ⟨b, 1, none⟩ = some (.bool ok) := cell_at h'
  have f0 : w.frozen? ⟨b, 0, none⟩ = false := free_at h'
  have f1 : w.frozen? ⟨b, 1, none⟩ = false := free_at h'
  by_cases hbad : ok = false ∨ t.length < n
  · have HR := hid (show takeR n ⟨t, ok⟩ = (⟨t, false⟩, []) from by unfold takeR; rw [if_pos hbad])
    have HA := hid (show PdAt b ⟨t, false⟩ (w.setCell ⟨b, 1, none⟩ (.bool false)) from by
      have := heap_setCell_at (j := 1) (u := .bool false) h'
      unfold PdAt
      rw [← hs]
      exact this)
    cases ok
    · clear h h' hs hbad hsz hl
      go_enter Tryz.func139, Tryz.ntmps139
      go_wp2_with fail
      go_ret
      exact ⟨by rw [HR.out]; rfl, by rw [HR.out]; exact HA.out, Fr.setCell _ _ _ (by simp)⟩
    · have hlt : (s.size : Int) < (n : Int) := by
        rcases hbad with h0 | h0
        · cases h0
        · omega
      clear h h' hs hbad hsz hl
      go_enter Tryz.func139, Tryz.ntmps139
      go_wp2_with fail
      go_ret
      exact ⟨by rw [HR.out]; rfl, by rw [HR.out]; exact HA.out, Fr.setCell _ _ _ (by simp)⟩
  · have hok : ok = true := by cases ok with | true => rfl | false => exact absurd (.inl rfl) hbad
    subst hok
    have hle : ¬ t.length < n := fun e => hbad (.inr e)
    have HR := hid (show takeR n ⟨t, true⟩ = (⟨t.drop n, true⟩, t.take n) from by unfold takeR; rw [if_neg hbad])
    have hlt : ¬ (s.size : Int) < (n : Int) := by omega
    have hns : n ≤ s.size := by omega
    have hn0 : (0 : Int) ≤ (n : Int) := by omega
    have hni : (n : Int) ≤ (s.size : Int) := by omega
    have HT := hid (show s.extract 0 n = bL (t.take n) from by rw [hs]; exact bL_take t n (by omega))
    have HD := hid (show s.extract n s.size = bL (t.drop n) from by rw [hs]; exact bL_drop t n)
    have HA := hid (show PdAt b ⟨t.drop n, true⟩ (w.setCell ⟨b, 0, none⟩ (.string (s.extract n s.size))) from by
      have := heap_setCell_at (j := 0) (u := .string (s.extract n s.size)) h'
      unfold PdAt
      rw [← HD.out]
      exact this)
    clear h h' hs hbad hle hsz
    go_enter Tryz.func139, Tryz.ntmps139
    go_wp2_with fail
    go_ret
    exact ⟨by rw [HR.out, ← HT.out]; rfl, by rw [HR.out]; exact HA.out, Fr.setCell _ _ _ (by simp)⟩
set_option maxRecDepth 100000 in
set_option maxHeartbeats 2000000 in
theorem rnum_any (b : Nat) (x : RdS) (k : Nat) (w : World) (h : PdAt b x w) (hk : okSize k) (hl : x.t.length ≤ 9223372036854775000) :
    Calls Tryz.prog 109 #[.pointer (some ⟨b, 0, none⟩), .int .i64 k] w (PdIs b (numI k x).1 (.int .i64 (numI k x).2) w) := by
  have hk8 : k ≤ 8 := by unfold okSize at hk; omega
  have HT := hid (take_any b x k w h (by omega) hl)
  obtain ⟨q, hq⟩ : ∃ q, q = takeR k x := ⟨_, rfl⟩
  obtain ⟨n, hn⟩ : ∃ n, n = (numI k x).2 := ⟨_, rfl⟩
  have hx1 : (numI k x).1 = q.1 := by rw [hq]; rfl
  rw [hx1, ← hn]
  rw [← hq] at HT
  obtain ⟨s, hs⟩ : ∃ s, s = bL q.2 := ⟨_, rfl⟩
  rw [← hs] at HT
  obtain ⟨m, hm⟩ : ∃ m, m = leN q.2 := ⟨_, rfl⟩
  have hnm : IntKind.i64.wrap (m : Int) = n := by rw [hn, hm, hq]; rfl
  have HG := hid (show ∃ ok, ∀ y : World, Calls Tryz.prog 84 #[.string s, .int .i64 0, .int .i64 k] y (fun e w' => e = .returned (.tuple #[.int .u64 m, .bool ok]) ∧ Below y.heap.size y w') from by
    by_cases hok : (takeR k x).1.ok = true
    · obtain ⟨-, -, h3⟩ := takeR_again hok
      rw [← hq] at h3
      refine ⟨true, fun y => ?_⟩
      have hss : s.size = k := by rw [hs, bL_size, h3]
      have h5 := get_yes s 0 k hk (by omega) (by omega) y
      rw [show getN s 0 k = m from by rw [getN_pt, hm, hs, bL_list]; unfold pt; rw [List.drop_zero, List.take_of_length_le (by omega)]] at h5
      exact h5
    · have h3 := takeR_fail (n := k) (x := x) (by cases hh : (takeR k x).1.ok with | true => exact absurd hh hok | false => rfl)
      rw [← hq] at h3
      refine ⟨false, fun y => ?_⟩
      have hm0 : m = 0 := by rw [hm, h3]; rfl
      have hk1 : 0 < k := by unfold okSize at hk; omega
      have hs0 : s.size = 0 := by rw [hs, h3, bL_size]; rfl
      rw [hm0]
      exact get_no s 0 k hk (by omega) (.inr (by omega)) y)
  obtain ⟨gb, hg⟩ := HG.out
  have HG := hid hg
  clear hq hn hx1 hs hm hg
  go_enter Tryz.func109, Tryz.ntmps109
  go_wp2_with fail
  refine HT.out.mono ?_
  rintro e w1 ⟨rfl, ha, hf⟩
  have HA := hid ha
  have HF := hid hf
  clear ha hf HT
  go_wp2_with fail
  refine (HG.out w1).mono ?_
  rintro e w2 ⟨rfl, hb⟩
  have HA := hid (HA.out.below hb)
  have HF := hid (HF.out.trans' (Fr.bel hb))
  clear hb HG
  go_wp2_with fail
  go_ret
  exact ⟨rfl, HA.out, HF.out⟩
end Go.Proofs.YtaooibocknemkaaGreat
end

section
namespace Go.Proofs.YtaooibocknemkaaGreat
open Go.RowKit Go.BigFrame
open Go.Lib (hid)
set_option linter.unusedVariables false
set_option linter.unusedSimpArgs false
theorem takeR_le (n : Nat) (x : RdS) : (takeR n x).1.t.length ≤ x.t.length := by
  unfold takeR
  split
  · exact Nat.le_refl _
  · rw [List.length_drop]; omega
theorem numI_small {k : Nat} (hk : k ≤ 4) (x : RdS) : (numI k x).2 = ((numR k x).2 : Int) := by
  have h := numR_lt k x
  have h4 : 256 ^ k ≤ 256 ^ 4 := Nat.pow_le_pow_right (by decide) hk
  have e4 : (256 : Nat) ^ 4 = 4294967296 := rfl
  show IntKind.i64.wrap ((numR k x).2 : Int) = _
  rw [IntKind.wrap_i64]
  omega
theorem PdAt.fr {b : Nat} {x : RdS} {w w' : World} {F : List Nat} (h : PdAt b x w) (hf : Fr F w w') (hb : b ∉ F) : PdAt b x w' := (hf.block b h.lt hb).trans h
theorem wrap_u32n {n : Nat} (h : n < 4294967296) : IntKind.u32.wrap (n : Int) = n := by rw [IntKind.wrap_u32]; omega
theorem wrap_u16n {n : Nat} (h : n < 65536) : IntKind.u16.wrap (n : Int) = n := by rw [IntKind.wrap_u16]; omega
theorem stores_fr {b : Nat} {F : List Nat} (hb : b ∈ F) : ∀ (l : List (Nat × Value)) (w : World), Fr F w (stores w b l)
  | [], w => Fr.refl _ _
  | p :: l, w => (Fr.setCell w _ _ hb).trans' (stores_fr hb l _)
theorem results_cell1 {P : Program} {fn : Func} {p : Tmp} {ty : TypeId} (h : fn.results = #[.cell p ty]) (tmps : Array Value) (w : World) (g : Nat) (t : TypeId) (cs : Array Value) (fr : Nat × Nat) (d : TypeDesc)
    (hp : tmps.getD p undef = .pointer (some ⟨g, 0, none⟩)) (hg : w.heap[g]? = some (.cells cs t fr))
    (hu : P.underlying ty = some d) (hd : (match d with | .struct _ | .array _ _ => true | _ => false) = true) (hi : (P.info? ty).map (·.size) = some cs.size) :
    (results fn tmps).run P w = .ok (.agg cs) w := by
  have hp' : tmps[p]?.getD undef = .pointer (some ⟨g, 0, none⟩) := by simpa using hp
  simp [results, h, hp', asAddr, run_loadVar_row w g t ty cs fr d hg hu hd hi]
def pointS (x : RdS) : RdS := (numR 4 (takeR 32 x).1).1
def pointN (x : RdS) : Nat := (numR 4 (takeR 32 x).1).2
def pointV (x : RdS) : Value := .agg #[.string (bL (takeR 32 x).2), .int .u32 (pointN x)]
theorem pointP_eq (r : PRec) (x : RdS) : pointP r x = (pointS x, { r with id := bL (takeR 32 x).2, idx := pointN x }) := rfl
set_option maxRecDepth 100000 in
set_option maxHeartbeats 4000000 in
theorem rpoint_any (b : Nat) (x : RdS) (w : World) (h : PdAt b x w) (hl : x.t.length ≤ 9223372036854775000) :
    Calls Tryz.prog 112 #[.pointer (some ⟨b, 0, none⟩)] w (PdIs b (pointS x) (pointV x) w) := by
  obtain ⟨m, hm⟩ : ∃ m, m = pointN x := ⟨_, rfl⟩
  have hm4 : m < 4294967296 := by rw [hm]; exact numR_lt 4 _
  obtain ⟨s, hs⟩ : ∃ s, s = bL (takeR 32 x).2 := ⟨_, rfl⟩
  have hv : pointV x = .agg #[.string s, .int .u32 m] := by unfold pointV; rw [← hs, ← hm]
  rw [hv]
  obtain ⟨x1, hx1⟩ : ∃ x1, x1 = (takeR 32 x).1 := ⟨_, rfl⟩
  obtain ⟨x2, hx2⟩ : ∃ x2, x2 = pointS x := ⟨_, rfl⟩
  have HT := hid (show ∀ y : World, PdAt b x y → Calls Tryz.prog 139 #[.pointer (some ⟨b, 0, none⟩), .int .i64 32] y (PdIs b x1 (.string s) y) from fun y hy => by
    rw [hx1, hs]; exact take_any b x 32 y hy (by decide) hl)
  have HN := hid (show ∀ y : World, PdAt b x1 y → Calls Tryz.prog 109 #[.pointer (some ⟨b, 0, none⟩), .int .i64 4] y (PdIs b x2 (.int .i64 (m : Int)) y) from fun y hy => by
    have h2 := rnum_any b x1 4 y hy (by unfold okSize; decide) (by rw [hx1]; have := takeR_le 32 x; omega)
    rw [numI_small (by decide)] at h2
    rw [hx2, hm]
    unfold pointS pointN
    rw [← hx1]
    exact h2)
  rw [← hx2]
  clear hx1 hx2 hm hs hv hl
  have hlt := h.lt
  have HX := hid h
  have HW := hid (wrap_u32n hm4)
  clear h hm4
  go_enter Tryz.func112, Tryz.ntmps112
  go_upto_region 1 with fail
  have hz := heap_alloc_new w (.cells #[.string ⟨#[]⟩, .int .u32 0] 31)
  have hal : Below w.heap.size w (w.alloc (.cells #[.string ⟨#[]⟩, .int .u32 0] 31)) := (Below.refl _ _).alloc (Nat.le_refl _) _
  obtain ⟨X, hX⟩ : ∃ q, q = w.heap.size := ⟨_, rfl⟩
  rw [← hX] at hz ⊢
  generalize w.alloc (.cells #[.string ⟨#[]⟩, .int .u32 0] 31) = w0 at *
  have HZ := hid hz
  have HF := hid (show Fr [b] w w0 from Fr.bel hal)
  have HXX := hid hX
  have HP := hid (HX.out.below hal)
  have hbX := hid (show X ≠ b by omega)
  clear hz hal hX HX hlt
  go_wp2_with fail
  refine (HT.out w0 HP.out).mono ?_
  rintro e w1 ⟨rfl, ha, hf⟩
  have HP := hid ha
  have HZ := hid ((hf.block X (Array.getElem?_eq_some_iff.1 HZ.out).1 (by simpa using hbX.out)).trans HZ.out)
  have HF := hid (HF.out.trans' hf)
  clear ha hf HT
  go_wp2_with fail
  refine (HN.out w1 HP.out).mono ?_
  rintro e w2 ⟨rfl, ha, hf⟩
  have HP := hid ha
  have HZ := hid ((hf.block X (Array.getElem?_eq_some_iff.1 HZ.out).1 (by simpa using hbX.out)).trans HZ.out)
  have HF := hid (HF.out.trans' hf)
  clear ha hf HN
  have hw32 := HW.out
  have d0 : w2.cell? ⟨X, 0, none⟩ = some (.string ⟨#[]⟩) := cell_at HZ.out
  have d1 : w2.cell? ⟨X, 1, none⟩ = some (.int .u32 0) := cell_at HZ.out
  have f0 : w2.frozen? ⟨X, 0, none⟩ = false := free_at HZ.out
  have f1 : w2.frozen? ⟨X, 1, none⟩ = false := free_at HZ.out
  obtain ⟨z1, z2, z3⟩ := stores_spec [(0, .string s), (1, .int .u32 m)] HZ.out
  have HZ := hid z1
  have HP := hid (show PdAt b x2 (stores w2 X [(0, .string s), (1, .int .u32 m)]) from (z2 b (fun e => hbX.out e.symm)).trans HP.out)
  have HF := hid (((HF.out.mono (F' := [b, X]) (fun k hk => .inl (by simp at hk; simp [hk]))).trans' (stores_fr (b := X) (by simp) [(0, .string s), (1, .int .u32 m)] w2)).mono (F' := [b]) (fun k hk => by
    simp at hk
    rcases hk with rfl | rfl
    · exact .inl (by simp)
    · exact .inr (by have := HXX.out; omega)))
  clear z1 z2 z3
  go_wp2_with fail
  refine bodyPost_ret (v := .agg #[.string s, .int .u32 m]) (results_cell1 (P := Tryz.prog) (p := 2) (ty := 31) Tryz.results112 _ _ X 31 #[.string s, .int .u32 m] (0, 0) _ rfl HZ.out Tryz.underlying31 rfl (by kernel_rfl)) rfl ?_
  exact ⟨rfl, HP.out, HF.out⟩
end Go.Proofs.YtaooibocknemkaaGreat
end

section
namespace Go.Proofs.YtaooibocknemkaaGreat
open Go.RowKit Go.BigFrame
open Go.Lib (hid)
set_option linter.unusedVariables false
set_option linter.unusedSimpArgs false
set_option maxRecDepth 100000 in
set_option maxHeartbeats 8000000 in
theorem rwish_any (b R : Nat) (x : RdS) (r : PRec) (va vb : Value) (w : World) (h : PdAt b x w) (hr : w.heap[R]? = some (.cells #[.int .i64 r.kind, .int .i64 r.num, .int .u32 r.tx.ver, va, vb, .int .u32 r.tx.lock, .int .i64 r.index, .string r.id, .int .u32 r.idx, .int .i64 r.val, .int .i64 r.br, .int .u16 r.tag, .int .u16 r.delay, .int .u32 r.height, .int .i64 r.dead, .int .i64 r.budget, .int .i64 r.start, .int .i64 r.fee] 35 (0, 0))) (hne : R ≠ b) (hl : x.t.length ≤ 9223372036854775000) :
    Calls Tryz.prog 111 #[.pointer (some ⟨b, 0, none⟩), .pointer (some ⟨R, 0, none⟩)] w (fun e w' => e = .returned (.tuple #[]) ∧ PdAt b (wishP r x).1 w' ∧ w'.heap[R]? = some (.cells #[.int .i64 (wishP r x).2.kind, .int .i64 (wishP r x).2.num, .int .u32 (wishP r x).2.tx.ver, va, vb, .int .u32 (wishP r x).2.tx.lock, .int .i64 (wishP r x).2.index, .string (wishP r x).2.id, .int .u32 (wishP r x).2.idx, .int .i64 (wishP r x).2.val, .int .i64 (wishP r x).2.br, .int .u16 (wishP r x).2.tag, .int .u16 (wishP r x).2.delay, .int .u32 (wishP r x).2.height, .int .i64 (wishP r x).2.dead, .int .i64 (wishP r x).2.budget, .int .i64 (wishP r x).2.start, .int .i64 (wishP r x).2.fee] 35 (0, 0)) ∧ Fr [b, R] w w') := by
  obtain ⟨x1, hx1⟩ : ∃ y, y = (numI 1 x).1 := ⟨_, rfl⟩
  obtain ⟨n1, hn1⟩ : ∃ y, y = (numI 1 x).2 := ⟨_, rfl⟩
  have hl1 : x1.t.length ≤ 9223372036854775000 := by rw [hx1]; exact Nat.le_trans (takeR_le 1 x) hl
  have HN1 := hid (show ∀ y : World, PdAt b x y → Calls Tryz.prog 109 #[.pointer (some ⟨b, 0, none⟩), .int .i64 1] y (PdIs b x1 (.int .i64 n1) y) from fun y hy => by
    have h2 := rnum_any b x 1 y hy (by unfold okSize; decide) hl
    rw [hx1, hn1]
    exact h2)
  obtain ⟨x2, hx2⟩ : ∃ y, y = (numR 2 x1).1 := ⟨_, rfl⟩
  obtain ⟨n2, hn2⟩ : ∃ y, y = (numR 2 x1).2 := ⟨_, rfl⟩
  have hl2 : x2.t.length ≤ 9223372036854775000 := by rw [hx2]; exact Nat.le_trans (takeR_le 2 x1) hl1
  have hb2 : n2 < 256 ^ 2 := by rw [hn2]; exact numR_lt 2 x1
  have HN2 := hid (show ∀ y : World, PdAt b x1 y → Calls Tryz.prog 109 #[.pointer (some ⟨b, 0, none⟩), .int .i64 2] y (PdIs b x2 (.int .i64 (n2 : Int)) y) from fun y hy => by
    have h2 := rnum_any b x1 2 y hy (by unfold okSize; decide) hl1
    rw [numI_small (by decide)] at h2
    rw [hx2, hn2]
    exact h2)
  obtain ⟨x3, hx3⟩ : ∃ y, y = (numR 2 x2).1 := ⟨_, rfl⟩
  obtain ⟨n3, hn3⟩ : ∃ y, y = (numR 2 x2).2 := ⟨_, rfl⟩
  have hl3 : x3.t.length ≤ 9223372036854775000 := by rw [hx3]; exact Nat.le_trans (takeR_le 2 x2) hl2
  have hb3 : n3 < 256 ^ 2 := by rw [hn3]; exact numR_lt 2 x2
  have HN3 := hid (show ∀ y : World, PdAt b x2 y → Calls Tryz.prog 109 #[.pointer (some ⟨b, 0, none⟩), .int .i64 2] y (PdIs b x3 (.int .i64 (n3 : Int)) y) from fun y hy => by
    have h2 := rnum_any b x2 2 y hy (by unfold okSize; decide) hl2
    rw [numI_small (by decide)] at h2
    rw [hx3, hn3]
    exact h2)
  obtain ⟨x4, hx4⟩ : ∃ y, y = (numR 4 x3).1 := ⟨_, rfl⟩
  obtain ⟨n4, hn4⟩ : ∃ y, y = (numR 4 x3).2 := ⟨_, rfl⟩
  have hl4 : x4.t.length ≤ 9223372036854775000 := by rw [hx4]; exact Nat.le_trans (takeR_le 4 x3) hl3
  have hb4 : n4 < 256 ^ 4 := by rw [hn4]; exact numR_lt 4 x3
  have HN4 := hid (show ∀ y : World, PdAt b x3 y → Calls Tryz.prog 109 #[.pointer (some ⟨b, 0, none⟩), .int .i64 4] y (PdIs b x4 (.int .i64 (n4 : Int)) y) from fun y hy => by
    have h2 := rnum_any b x3 4 y hy (by unfold okSize; decide) hl3
    rw [numI_small (by decide)] at h2
    rw [hx4, hn4]
    exact h2)
  obtain ⟨x5, hx5⟩ : ∃ y, y = (numI 4 x4).1 := ⟨_, rfl⟩
  obtain ⟨n5, hn5⟩ : ∃ y, y = (numI 4 x4).2 := ⟨_, rfl⟩
  have hl5 : x5.t.length ≤ 9223372036854775000 := by rw [hx5]; exact Nat.le_trans (takeR_le 4 x4) hl4
  have HN5 := hid (show ∀ y : World, PdAt b x4 y → Calls Tryz.prog 109 #[.pointer (some ⟨b, 0, none⟩), .int .i64 4] y (PdIs b x5 (.int .i64 n5) y) from fun y hy => by
    have h2 := rnum_any b x4 4 y hy (by unfold okSize; decide) hl4
    rw [hx5, hn5]
    exact h2)
  obtain ⟨x6, hx6⟩ : ∃ y, y = (numI 8 x5).1 := ⟨_, rfl⟩
  obtain ⟨n6, hn6⟩ : ∃ y, y = (numI 8 x5).2 := ⟨_, rfl⟩
  have hl6 : x6.t.length ≤ 9223372036854775000 := by rw [hx6]; exact Nat.le_trans (takeR_le 8 x5) hl5
  have HN6 := hid (show ∀ y : World, PdAt b x5 y → Calls Tryz.prog 109 #[.pointer (some ⟨b, 0, none⟩), .int .i64 8] y (PdIs b x6 (.int .i64 n6) y) from fun y hy => by
    have h2 := rnum_any b x5 8 y hy (by unfold okSize; decide) hl5
    rw [hx6, hn6]
    exact h2)
  obtain ⟨x7, hx7⟩ : ∃ y, y = (numI 4 x6).1 := ⟨_, rfl⟩
  obtain ⟨n7, hn7⟩ : ∃ y, y = (numI 4 x6).2 := ⟨_, rfl⟩
  have hl7 : x7.t.length ≤ 9223372036854775000 := by rw [hx7]; exact Nat.le_trans (takeR_le 4 x6) hl6
  have HN7 := hid (show ∀ y : World, PdAt b x6 y → Calls Tryz.prog 109 #[.pointer (some ⟨b, 0, none⟩), .int .i64 4] y (PdIs b x7 (.int .i64 n7) y) from fun y hy => by
    have h2 := rnum_any b x6 4 y hy (by unfold okSize; decide) hl6
    rw [hx7, hn7]
    exact h2)
  have hW : wishP r x = (x7, { r with br := n1, tag := n2, delay := n3, height := n4, dead := n5, budget := n6, start := n7 }) := by
    unfold wishP
    rw [← hx1, ← hn1]
    rw [← hx2, ← hn2]
    rw [← hx3, ← hn3]
    rw [← hx4, ← hn4]
    rw [← hx5, ← hn5]
    rw [← hx6, ← hn6]
    rw [← hx7, ← hn7]
  rw [hW]
  dsimp only
  have HW2 := hid (wrap_u16n hb2)
  have HW3 := hid (wrap_u16n hb3)
  have HW4 := hid (wrap_u32n hb4)
  clear hW hb2 hb3 hb4 hl hx1 hn1 hl1 hx2 hn2 hl2 hx3 hn3 hl3 hx4 hn4 hl4 hx5 hn5 hl5 hx6 hn6 hl6 hx7 hn7 hl7
  have HP := hid h
  have HR := hid hr
  have HNE := hid hne
  have HF := hid (Fr.refl [b, R] w)
  clear h hr hne
  go_enter Tryz.func111, Tryz.ntmps111
  go_wp2_with fail
  refine (HN1.out w HP.out).mono ?_
  rintro e w1 ⟨rfl, ha, hf⟩
  have HP := hid ha
  have HR := hid ((hf.block R (Array.getElem?_eq_some_iff.1 HR.out).1 (by simpa using HNE.out)).trans HR.out)
  have HF := hid (HF.out.trans' (hf.mono (F' := [b, R]) (fun k hk => .inl (by simp at hk; simp [hk]))))
  clear ha hf HN1
  have d10 : w1.cell? ⟨R, 10, none⟩ = some (.int .i64 r.br) := cell_at HR.out
  have f10 : w1.frozen? ⟨R, 10, none⟩ = false := free_at HR.out
  obtain ⟨z1, z2, -⟩ := stores_spec [(10, .int .i64 n1)] HR.out
  have HP := hid (show PdAt b _ (stores w1 R [(10, .int .i64 n1)]) from (z2 b (fun e => HNE.out e.symm)).trans HP.out)
  have HR := hid (show (stores w1 R [(10, .int .i64 n1)]).heap[R]? = some (.cells #[.int .i64 r.kind, .int .i64 r.num, .int .u32 r.tx.ver, va, vb, .int .u32 r.tx.lock, .int .i64 r.index, .string r.id, .int .u32 r.idx, .int .i64 r.val, .int .i64 n1, .int .u16 r.tag, .int .u16 r.delay, .int .u32 r.height, .int .i64 r.dead, .int .i64 r.budget, .int .i64 r.start, .int .i64 r.fee] 35 (0, 0)) from z1)
  have HF := hid (HF.out.trans' (stores_fr (b := R) (by simp) [(10, .int .i64 n1)] w1))
  clear z1 z2
  go_wp2_with fail
  change Calls _ _ _ (stores w1 R [(10, .int .i64 n1)]) _
  generalize stores w1 R [(10, .int .i64 n1)] = w2 at *
  clear d10 f10
  refine (HN2.out w2 HP.out).mono ?_
  rintro e w3 ⟨rfl, ha, hf⟩
  have HP := hid ha
  have HR := hid ((hf.block R (Array.getElem?_eq_some_iff.1 HR.out).1 (by simpa using HNE.out)).trans HR.out)
  have HF := hid (HF.out.trans' (hf.mono (F' := [b, R]) (fun k hk => .inl (by simp at hk; simp [hk]))))
  clear ha hf HN2
  go_wp2_with fail
  refine (HN3.out w3 HP.out).mono ?_
  rintro e w4 ⟨rfl, ha, hf⟩
  have HP := hid ha
  have HR := hid ((hf.block R (Array.getElem?_eq_some_iff.1 HR.out).1 (by simpa using HNE.out)).trans HR.out)
  have HF := hid (HF.out.trans' (hf.mono (F' := [b, R]) (fun k hk => .inl (by simp at hk; simp [hk]))))
  clear ha hf HN3
  go_wp2_with fail
  refine (HN4.out w4 HP.out).mono ?_
  rintro e w5 ⟨rfl, ha, hf⟩
  have HP := hid ha
  have HR := hid ((hf.block R (Array.getElem?_eq_some_iff.1 HR.out).1 (by simpa using HNE.out)).trans HR.out)
  have HF := hid (HF.out.trans' (hf.mono (F' := [b, R]) (fun k hk => .inl (by simp at hk; simp [hk]))))
  clear ha hf HN4
  have hw2 := HW2.out
  have hw3 := HW3.out
  have hw4 := HW4.out
  have d11 : w5.cell? ⟨R, 11, none⟩ = some (.int .u16 r.tag) := cell_at HR.out
  have f11 : w5.frozen? ⟨R, 11, none⟩ = false := free_at HR.out
  have d12 : w5.cell? ⟨R, 12, none⟩ = some (.int .u16 r.delay) := cell_at HR.out
  have f12 : w5.frozen? ⟨R, 12, none⟩ = false := free_at HR.out
  have d13 : w5.cell? ⟨R, 13, none⟩ = some (.int .u32 r.height) := cell_at HR.out
  have f13 : w5.frozen? ⟨R, 13, none⟩ = false := free_at HR.out
  obtain ⟨z1, z2, -⟩ := stores_spec [(11, .int .u16 n2), (12, .int .u16 n3), (13, .int .u32 n4)] HR.out
  have HP := hid (show PdAt b _ (stores w5 R [(11, .int .u16 n2), (12, .int .u16 n3), (13, .int .u32 n4)]) from (z2 b (fun e => HNE.out e.symm)).trans HP.out)
  have HR := hid (show (stores w5 R [(11, .int .u16 n2), (12, .int .u16 n3), (13, .int .u32 n4)]).heap[R]? = some (.cells #[.int .i64 r.kind, .int .i64 r.num, .int .u32 r.tx.ver, va, vb, .int .u32 r.tx.lock, .int .i64 r.index, .string r.id, .int .u32 r.idx, .int .i64 r.val, .int .i64 n1, .int .u16 n2, .int .u16 n3, .int .u32 n4, .int .i64 r.dead, .int .i64 r.budget, .int .i64 r.start, .int .i64 r.fee] 35 (0, 0)) from z1)
  have HF := hid (HF.out.trans' (stores_fr (b := R) (by simp) [(11, .int .u16 n2), (12, .int .u16 n3), (13, .int .u32 n4)] w5))
  clear z1 z2
  go_wp2_with fail
  change Calls _ _ _ (stores w5 R [(11, .int .u16 n2), (12, .int .u16 n3), (13, .int .u32 n4)]) _
  generalize stores w5 R [(11, .int .u16 n2), (12, .int .u16 n3), (13, .int .u32 n4)] = w6 at *
  clear d11 f11 d12 f12 d13 f13 hw2 hw3 hw4 HW2 HW3 HW4
  refine (HN5.out w6 HP.out).mono ?_
  rintro e w7 ⟨rfl, ha, hf⟩
  have HP := hid ha
  have HR := hid ((hf.block R (Array.getElem?_eq_some_iff.1 HR.out).1 (by simpa using HNE.out)).trans HR.out)
  have HF := hid (HF.out.trans' (hf.mono (F' := [b, R]) (fun k hk => .inl (by simp at hk; simp [hk]))))
  clear ha hf HN5
  go_wp2_with fail
  refine (HN6.out w7 HP.out).mono ?_
  rintro e w8 ⟨rfl, ha, hf⟩
  have HP := hid ha
  have HR := hid ((hf.block R (Array.getElem?_eq_some_iff.1 HR.out).1 (by simpa using HNE.out)).trans HR.out)
  have HF := hid (HF.out.trans' (hf.mono (F' := [b, R]) (fun k hk => .inl (by simp at hk; simp [hk]))))
  clear ha hf HN6
  go_wp2_with fail
  refine (HN7.out w8 HP.out).mono ?_
  rintro e w9 ⟨rfl, ha, hf⟩
  have HP := hid ha
  have HR := hid ((hf.block R (Array.getElem?_eq_some_iff.1 HR.out).1 (by simpa using HNE.out)).trans HR.out)
  have HF := hid (HF.out.trans' (hf.mono (F' := [b, R]) (fun k hk => .inl (by simp at hk; simp [hk]))))
  clear ha hf HN7
  have d14 : w9.cell? ⟨R, 14, none⟩ = some (.int .i64 r.dead) := cell_at HR.out
  have f14 : w9.frozen? ⟨R, 14, none⟩ = false := free_at HR.out
  have d15 : w9.cell? ⟨R, 15, none⟩ = some (.int .i64 r.budget) := cell_at HR.out
  have f15 : w9.frozen? ⟨R, 15, none⟩ = false := free_at HR.out
  have d16 : w9.cell? ⟨R, 16, none⟩ = some (.int .i64 r.start) := cell_at HR.out
  have f16 : w9.frozen? ⟨R, 16, none⟩ = false := free_at HR.out
  obtain ⟨z1, z2, -⟩ := stores_spec [(14, .int .i64 n5), (15, .int .i64 n6), (16, .int .i64 n7)] HR.out
  have HP := hid (show PdAt b _ (stores w9 R [(14, .int .i64 n5), (15, .int .i64 n6), (16, .int .i64 n7)]) from (z2 b (fun e => HNE.out e.symm)).trans HP.out)
  have HR := hid (show (stores w9 R [(14, .int .i64 n5), (15, .int .i64 n6), (16, .int .i64 n7)]).heap[R]? = some (.cells #[.int .i64 r.kind, .int .i64 r.num, .int .u32 r.tx.ver, va, vb, .int .u32 r.tx.lock, .int .i64 r.index, .string r.id, .int .u32 r.idx, .int .i64 r.val, .int .i64 n1, .int .u16 n2, .int .u16 n3, .int .u32 n4, .int .i64 n5, .int .i64 n6, .int .i64 n7, .int .i64 r.fee] 35 (0, 0)) from z1)
  have HF := hid (HF.out.trans' (stores_fr (b := R) (by simp) [(14, .int .i64 n5), (15, .int .i64 n6), (16, .int .i64 n7)] w9))
  clear z1 z2
  go_wp2_with fail
  refine bodyPost_end (v := .tuple #[]) (by kernel_rfl) rfl ?_
  exact ⟨rfl, HP.out, HR.out, HF.out⟩
end Go.Proofs.YtaooibocknemkaaGreat
end

section
namespace Go.Proofs.YtaooibocknemkaaGreat
open Go.RowKit
set_option linter.unusedVariables false
set_option linter.unusedSimpArgs false

def setIns (t : PTx) (l : List PIn) : PTx := ⟨t.ver, l, t.outs, t.lock⟩
/-- The transaction's blocks lie from B to hi or behind wc; what isn't of them is as at wc. -/
structure VS (B hi : Nat) (va vo : Value) (t : PTx) (wc : World) (l : List PIn) (wr : World) : Prop where
  bel : Below B wc wr
  size : wc.heap.size ≤ wr.heap.size
  hic : hi ≤ wc.heap.size
  keep : ∀ b, b < wc.heap.size → ¬ (B ≤ b ∧ b < hi) → wr.heap[b]? = wc.heap[b]?
  own : ∃ ps, l = ps.map (·.1) ∧ InsOwn B wr va ps ∧ (∀ b, vo.ownBlock = some b → ¬ InsHas va ps b) ∧ ∀ b, InsHas va ps b → b < hi ∨ wc.heap.size ≤ b
  outs : OutsOwn B wr vo t.outs
  olt : ∀ b, vo.ownBlock = some b → b < hi
  nums : t.ver < 4294967296 ∧ t.lock < 4294967296
section
variable {B hi : Nat} {va vo : Value} {t : PTx} {wc wr w' : World} {l : List PIn}
theorem VS.tx (h : VS B hi va vo t wc l wr) : TxAt wr (.agg #[.int .u32 t.ver, va, vo, .int .u32 t.lock]) (setIns t l) := by
  obtain ⟨ps, rfl, h1, -, -⟩ := h.own
  exact ⟨va, vo, rfl, h1.sl, h.outs.sl, h.nums⟩
theorem VS.cell (h : VS B hi va vo t wc l wr) {X j : Nat} {u : Value} (hX : ¬ (B ≤ X ∧ X < hi)) (hc : wc.cell? ⟨X, j, none⟩ = some u) : wr.cell? ⟨X, j, none⟩ = some u := by
  rw [World.cell?_of_block (h.keep X (World.block_lt_of_cell? wc ⟨X, j, none⟩ hc) hX)]
  exact hc
theorem VS.len (h : VS B hi va vo t wc l wr) : ∃ a c, va = .slice a l.length c ∧ l.length ≤ c ∧ c ≤ maxLen := by
  obtain ⟨ps, rfl, h1, -, -⟩ := h.own
  rw [List.length_map]
  exact ownsRow_shape h1.row
/-- What may be known of one In, and what becomes of it. -/
structure VSlot (B hi : Nat) (va vo : Value) (t : PTx) (wc : World) (l : List PIn) (i : Nat) (x : PIn) (b : Nat) (wv : Value) (wr : World) : Prop where
  vs : VS B hi va vo t wc l wr
  row : wr.ownsRow B 9 1 wv x.wit.length (strCells x.wit)
  ok : OkIn x
  cell : wr.cell? ⟨b, i * 4 + 3, none⟩ = some wv
  free : wr.frozen? ⟨b, i * 4 + 3, none⟩ = false
  is : b < wr.heap.size ∧ B ≤ b ∧ (b < hi ∨ wc.heap.size ≤ b) ∧ wv.ownBlock ≠ some b
  wlt : ∀ g, wv.ownBlock = some g → B ≤ g ∧ (g < hi ∨ wc.heap.size ≤ g)
  put : ∀ (l' : List ByteArray) (wv' : Value) (w' : World), (∀ k, k < wr.heap.size → wv.ownBlock ≠ some k → w'.heap[k]? = wr.heap[k]?) → Below B wr w' → wr.heap.size ≤ w'.heap.size →
    w'.ownsRow B 9 1 wv' l'.length (strCells l') → okStrs l' → (wv'.ownBlock = wv.ownBlock ∨ wv'.ownBlock = none ∨ ∃ G, wv'.ownBlock = some G ∧ wr.heap.size ≤ G) →
    VS B hi va vo t wc (l.set i { x with wit := l' }) (w'.setCell ⟨b, i * 4 + 3, none⟩ wv')
end
end Go.Proofs.YtaooibocknemkaaGreat
end

section
namespace Go.Proofs.YtaooibocknemkaaGreat
open Go.RowKit Go.BigFrame
open Go.Lib (hid)
set_option linter.unusedVariables false
set_option linter.unusedSimpArgs false

theorem Psr.le {α : Type} {F : Prs α} {q : α → List UInt8} {ok : α → Prop} (h : Psr F q ok) {l : List UInt8} {z : Zst} (hz : z.at_ ≤ l.length) : (F l z).1.at_ ≤ l.length := by
  by_cases he : z.err = 0
  · exact (h.bound l z he hz).2
  · rw [h.stay l z he]; exact hz
theorem Psr.le' {α : Type} {F : Prs α} {q : α → List UInt8} {ok : α → Prop} (h : Psr F q ok) {s : ByteArray} {z : Zst} (hz : z.at_ ≤ s.size) : (F s.data.toList z).1.at_ ≤ s.size := by
  have := h.le (l := s.data.toList) (z := z) (by rw [data_len]; exact hz)
  rw [data_len] at this
  exact this
theorem Fr.heap {F : List Nat} {w w' : World} (h : Fr F w w') {X : Nat} {o : Obj} (hX : w.heap[X]? = some o) (hn : X ∉ F) : w'.heap[X]? = some o := (h.block X (Array.getElem?_eq_some_iff.1 hX).1 hn).trans hX
theorem four_cells' {w : World} {X : Nat} {u0 u1 u2 u3 : Value} {t : TypeId} (h : w.heap[X]? = some (.cells #[u0, u1, u2, u3] t (0, 0))) (v0 v1 v2 v3 : Value) :
    ((((w.setCell ⟨X, 0, none⟩ v0).setCell ⟨X, 1, none⟩ v1).setCell ⟨X, 2, none⟩ v2).setCell ⟨X, 3, none⟩ v3).heap[X]? = some (.cells #[v0, v1, v2, v3] t (0, 0)) ∧
    ∀ F, X ∈ F → Fr F w ((((w.setCell ⟨X, 0, none⟩ v0).setCell ⟨X, 1, none⟩ v1).setCell ⟨X, 2, none⟩ v2).setCell ⟨X, 3, none⟩ v3) := by
  have q1 := heap_setCell_at (j := 0) (u := v0) h
  have q2 := heap_setCell_at (j := 1) (u := v1) q1
  have q3 := heap_setCell_at (j := 2) (u := v2) q2
  have q4 := heap_setCell_at (j := 3) (u := v3) q3
  exact ⟨q4, fun F hF => (((Fr.setCell (F := F) w ⟨X, 0, none⟩ v0 hF).trans' (Fr.setCell _ ⟨X, 1, none⟩ v1 hF)).trans' (Fr.setCell _ ⟨X, 2, none⟩ v2 hF)).trans' (Fr.setCell _ ⟨X, 3, none⟩ v3 hF)⟩
theorem two_cells' {w : World} {X : Nat} {u0 u1 : Value} {t : TypeId} (h : w.heap[X]? = some (.cells #[u0, u1] t (0, 0))) (v0 v1 : Value) :
    ((w.setCell ⟨X, 0, none⟩ v0).setCell ⟨X, 1, none⟩ v1).heap[X]? = some (.cells #[v0, v1] t (0, 0)) ∧ ∀ F, X ∈ F → Fr F w ((w.setCell ⟨X, 0, none⟩ v0).setCell ⟨X, 1, none⟩ v1) := by
  have q1 := heap_setCell_at (j := 0) (u := v0) h
  have q2 := heap_setCell_at (j := 1) (u := v1) q1
  exact ⟨q2, fun F hF => (Fr.setCell (F := F) w ⟨X, 0, none⟩ v0 hF).trans' (Fr.setCell _ ⟨X, 1, none⟩ v1 hF)⟩
theorem fr_new {b X Y : Nat} {w w' : World} (h : Fr [b, X, Y] w w') (hX : w.heap.size ≤ X) (hY : w.heap.size ≤ Y) : Fr [b] w w' := h.mono fun k hk => by
  simp only [List.mem_cons, List.not_mem_nil, or_false] at hk
  rcases hk with rfl | rfl | rfl
  · exact .inl (by simp)
  · exact .inr hX
  · exact .inr hY
theorem fr_wide {b X Y : Nat} {w w' : World} (h : Fr [b] w w') : Fr [b, X, Y] w w' := h.mono fun k hk => by
  simp only [List.mem_cons, List.not_mem_nil, or_false] at hk
  subst hk
  exact .inl (by simp)
def inV (x : PIn) : Value := .agg #[.string x.id, .int .u32 x.idx, .int .u32 x.seq, .slice none 0 0]
def outRV (x : POut) : Value := .agg #[.int .i64 x.val, .string x.script]

set_option maxRecDepth 100000 in
set_option maxHeartbeats 2000000 in
theorem in_any (b : Nat) (s : ByteArray) (z : Zst) (w : World) (h : RdAt b s z w) (hs : s.size ≤ 9223372036854775000) (hz : z.at_ ≤ s.size) :
    Calls Tryz.prog 184 #[.pointer (some ⟨b, 0, none⟩)] w (RdIs b s (inZ s.data.toList z).1 (inV (inZ s.data.toList z).2) w) := by
  have HA := hid h
  have hbl := h.lt
  obtain ⟨z1, s1, hz1⟩ : ∃ z1 s1, textZ 32 s.data.toList z = (z1, s1) := ⟨_, _, rfl⟩
  obtain ⟨z2, n2, hz2⟩ : ∃ z2 n2, numZ 4 4294967295 3 s.data.toList z1 = (z2, n2) := ⟨_, _, rfl⟩
  obtain ⟨z3, n3, hz3⟩ : ∃ z3 n3, cntZ 0 0 4 s.data.toList z2 = (z3, n3) := ⟨_, _, rfl⟩
  obtain ⟨z4, n4, hz4⟩ : ∃ z4 n4, numZ 4 4294967295 3 s.data.toList z3 = (z4, n4) := ⟨_, _, rfl⟩
  have hr : inZ s.data.toList z = (z4, ⟨s1, n2, n4, []⟩) := by unfold inZ mapZ seqZ; rw [hz1]; dsimp only; rw [hz2]; dsimp only; rw [hz3]; dsimp only; rw [hz4]
  rw [hr]
  have k1 := (textZ_psr 32).le' (s := s) hz
  rw [hz1] at k1
  have k2 := (numZ_psr 4 4294967295 3 (by decide)).le' (s := s) k1
  rw [hz2] at k2
  have k3 := (cntZ_psr 0 0 4 (by decide) (by decide)).le' (s := s) k2
  rw [hz3] at k3
  dsimp only at k1 k2 k3
  have q1 : ∀ y, RdAt b s z y → _ := fun y hy => bytes_any b s z 32 y hy hs hz (by decide)
  have q2 : ∀ y, RdAt b s z1 y → _ := fun y hy => four_any b s z1 y hy hs k1
  have q3 : ∀ y, RdAt b s z2 y → _ := fun y hy => count_any b s z2 0 0 4 y hy hs k2 (by decide) (by decide) (by decide)
  have q4 : ∀ y, RdAt b s z3 y → _ := fun y hy => four_any b s z3 y hy hs k3
  simp only [hz1] at q1
  simp only [hz2] at q2
  simp only [hz3] at q3
  simp only [hz4] at q4
  have Q1 := hid q1
  have Q2 := hid q2
  have Q3 := hid q3
  have Q4 := hid q4
  clear h hr hz1 hz2 hz3 hz4 k1 k2 k3 q1 q2 q3 q4 hz hs
  go_enter Tryz.func184, Tryz.ntmps184
  go_upto_region 1 with fail
  have hz := heap_alloc_new w (.cells #[.string ⟨#[]⟩, .int .u32 0, .int .u32 0, .slice none 0 0] 69)
  have hal : Below w.heap.size w (w.alloc (.cells #[.string ⟨#[]⟩, .int .u32 0, .int .u32 0, .slice none 0 0] 69)) := (Below.refl _ _).alloc (Nat.le_refl _) _
  obtain ⟨X, hX⟩ : ∃ q, q = w.heap.size := ⟨_, rfl⟩
  rw [← hX] at hz ⊢
  generalize w.alloc (.cells #[.string ⟨#[]⟩, .int .u32 0, .int .u32 0, .slice none 0 0] 69) = w0 at *
  have HA := hid (HA.out.below hal)
  have HF := hid (Fr.bel (b := b) hal)
  have HX := hid hz
  have HN := hid (And.intro hX hbl)
  clear hz hal hX hbl
  go_wp2_with fail
  refine (Q1.out _ HA.out).mono ?_
  rintro e w1 ⟨rfl, ha, hf⟩
  have HA := hid ha
  have HX := hid (hf.heap HX.out (by have := HN.out; simp; omega))
  have HF := hid (HF.out.trans' hf)
  clear ha hf
  go_wp2_with fail
  refine (Q2.out _ HA.out).mono ?_
  rintro e w2 ⟨rfl, ha, hf⟩
  have HA := hid ha
  have HX := hid (hf.heap HX.out (by have := HN.out; simp; omega))
  have HF := hid (HF.out.trans' hf)
  clear ha hf
  go_upto_region 2 with fail
  have hz := heap_alloc_new w2 (.cells #[.string s1, .int .u32 n2, .int .u32 0, .slice none 0 0] 69)
  have hal : Below w2.heap.size w2 (w2.alloc (.cells #[.string s1, .int .u32 n2, .int .u32 0, .slice none 0 0] 69)) := (Below.refl _ _).alloc (Nat.le_refl _) _
  obtain ⟨Y, hY⟩ : ∃ q, q = w2.heap.size := ⟨_, rfl⟩
  rw [← hY] at hz ⊢
  generalize w2.alloc (.cells #[.string s1, .int .u32 n2, .int .u32 0, .slice none 0 0] 69) = w3 at *
  have HA := hid (HA.out.below hal)
  have HNY := hid (show X < Y ∧ w.heap.size ≤ Y from ⟨by rw [hY]; exact (Array.getElem?_eq_some_iff.1 HX.out).1, by rw [hY]; exact HF.out.size⟩)
  have HX := hid (show w3.heap[X]? = _ from (hal.block X (Array.getElem?_eq_some_iff.1 HX.out).1).trans HX.out)
  have HF := hid (HF.out.trans' (Fr.bel (b := b) hal))
  have HY := hid hz
  clear hz hal hY
  go_wp2_with fail
  refine (Q3.out _ HA.out).mono ?_
  rintro e w4 ⟨rfl, ha, hf⟩
  have HA := hid ha
  have HX := hid (hf.heap HX.out (by have := HN.out; simp; omega))
  have HY := hid (hf.heap HY.out (by have := HN.out; have := HNY.out; simp; omega))
  have HF := hid (HF.out.trans' hf)
  clear ha hf
  go_wp2_with fail
  refine (Q4.out _ HA.out).mono ?_
  rintro e w5 ⟨rfl, ha, hf⟩
  have HA := hid ha
  have HX := hid (hf.heap HX.out (by have := HN.out; simp; omega))
  have HY := hid (hf.heap HY.out (by have := HN.out; have := HNY.out; simp; omega))
  have HF := hid (HF.out.trans' hf)
  clear ha hf Q1 Q2 Q3 Q4
  have y2 : w5.cell? ⟨Y, 2, none⟩ = some (.int .u32 0) := cell_at HY.out
  have g2 : w5.frozen? ⟨Y, 2, none⟩ = false := free_at HY.out
  go_upto_region 4 with fail
  have HA := hid (show RdAt b s z4 (w5.setCell ⟨Y, 2, none⟩ (.int .u32 n4)) from (Below.heap_setCell _ _ _ _ (by have := HN.out; have := HNY.out; dsimp only; omega)).trans HA.out)
  have HX := hid ((Below.heap_setCell w5 ⟨Y, 2, none⟩ (.int .u32 n4) X (by have := HNY.out; dsimp only; omega)).trans HX.out)
  have HY := hid (heap_setCell_at (j := 2) (u := .int .u32 n4) HY.out)
  have HF := hid ((fr_wide (X := X) (Y := Y) HF.out).trans' (Fr.setCell w5 ⟨Y, 2, none⟩ (.int .u32 n4) (by simp)))
  clear y2 g2
  generalize w5.setCell ⟨Y, 2, none⟩ (.int .u32 n4) = w6 at *
  have y0 : w6.cell? ⟨Y, 0, none⟩ = some (.string s1) := cell_at HY.out
  have y1 : w6.cell? ⟨Y, 1, none⟩ = some (.int .u32 n2) := cell_at HY.out
  have y2 : w6.cell? ⟨Y, 2, none⟩ = some (.int .u32 n4) := cell_at HY.out
  have y3 : w6.cell? ⟨Y, 3, none⟩ = some (.slice none 0 0) := cell_at HY.out
  have x0 : w6.cell? ⟨X, 0, none⟩ = some (.string ⟨#[]⟩) := cell_at HX.out
  have x1 : w6.cell? ⟨X, 1, none⟩ = some (.int .u32 0) := cell_at HX.out
  have x2 : w6.cell? ⟨X, 2, none⟩ = some (.int .u32 0) := cell_at HX.out
  have x3 : w6.cell? ⟨X, 3, none⟩ = some (.slice none 0 0) := cell_at HX.out
  have f0 : w6.frozen? ⟨X, 0, none⟩ = false := free_at HX.out
  have f1 : w6.frozen? ⟨X, 1, none⟩ = false := free_at HX.out
  have f2 : w6.frozen? ⟨X, 2, none⟩ = false := free_at HX.out
  have f3 : w6.frozen? ⟨X, 3, none⟩ = false := free_at HX.out
  obtain ⟨c4, c5⟩ := four_cells' HX.out (.string s1) (.int .u32 n2) (.int .u32 n4) (.slice none 0 0)
  have HF2 := hid (HF.out.trans' (c5 [b, X, Y] (by simp)))
  have HA2 := hid (show RdAt b s z4 _ from ((c5 [X] (by simp)).block b HA.out.lt (by have := HN.out; simp; omega)).trans HA.out)
  have HC4 := hid c4
  clear c4 c5
  go_wp2_with fail
  have c4 := HC4.out
  have r0 := cell_at (j := 0) c4
  have r1 := cell_at (j := 1) c4
  have r2 := cell_at (j := 2) c4
  have r3 := cell_at (j := 3) c4
  refine bodyPost_ret (v := .agg #[.string s1, .int .u32 n2, .int .u32 n4, .slice none 0 0]) (by simp [results, Tryz.results184, go_sem, x0, x1, x2, x3]) rfl ⟨rfl, HA2.out, fr_new HF2.out (by have := HN.out; omega) (by have := HNY.out; omega)⟩
theorem cntZ_le (least most : Nat) (e : Int) (l : List UInt8) (z : Zst) : (cntZ least most e l z).2 ≤ most := by
  unfold cntZ
  split
  · exact Nat.zero_le _
  · split
    · exact Nat.zero_le _
    · split
      · exact Nat.zero_le _
      · dsimp only; omega
set_option maxRecDepth 100000 in
set_option maxHeartbeats 2000000 in
theorem out_any (b : Nat) (s : ByteArray) (z : Zst) (w : World) (h : RdAt b s z w) (hs : s.size ≤ 9223372036854775000) (hz : z.at_ ≤ s.size) :
    Calls Tryz.prog 185 #[.pointer (some ⟨b, 0, none⟩)] w (RdIs b s (outZ s.data.toList z).1 (outRV (outZ s.data.toList z).2) w) := by
  have HA := hid h
  have hbl := h.lt
  obtain ⟨z1, n1, hz1⟩ : ∃ z1 n1, numZ 8 2100000000000000 3 s.data.toList z = (z1, n1) := ⟨_, _, rfl⟩
  obtain ⟨z2, n2, hz2⟩ : ∃ z2 n2, cntZ 0 40 20 s.data.toList z1 = (z2, n2) := ⟨_, _, rfl⟩
  obtain ⟨z3, s3, hz3⟩ : ∃ z3 s3, textZ n2 s.data.toList z2 = (z3, s3) := ⟨_, _, rfl⟩
  have hr : outZ s.data.toList z = (z3, ⟨(n1 : Int), s3⟩) := by unfold outZ cntText mapZ seqZ; rw [hz1]; dsimp only; rw [hz2]; dsimp only; rw [hz3]
  rw [hr]
  have k1 := (numZ_psr 8 2100000000000000 3 (by decide)).le' (s := s) hz
  rw [hz1] at k1
  have k2 := (cntZ_psr 0 40 20 (by decide) (by decide)).le' (s := s) k1
  rw [hz2] at k2
  dsimp only at k1 k2
  have hn1 := numZ_le 8 2100000000000000 3 s.data.toList z
  have hn2 := cntZ_le 0 40 20 s.data.toList z1
  rw [hz1] at hn1
  rw [hz2] at hn2
  dsimp only at hn1 hn2
  have q1 : ∀ y, RdAt b s z y → _ := fun y hy => number_any b s z 8 2100000000000000 3 y hy (.inr (.inr (.inr rfl))) hs hz (by decide) (by decide)
  have q2 : ∀ y, RdAt b s z1 y → _ := fun y hy => count_any b s z1 0 40 20 y hy hs k1 (by decide) (by decide) (by decide)
  have q3 : ∀ y, RdAt b s z2 y → _ := fun y hy => bytes_any b s z2 n2 y hy hs k2 (by omega)
  simp only [hz1] at q1
  simp only [hz2] at q2
  simp only [hz3] at q3
  have Q1 := hid q1
  have Q2 := hid q2
  have Q3 := hid q3
  have hn1I : (n1 : Int) ≤ 2100000000000000 := by omega
  clear h hr hz1 hz2 hz3 k1 k2 q1 q2 q3 hz hs hn1 hn2
  go_enter Tryz.func185, Tryz.ntmps185
  go_upto_region 1 with fail
  have hz := heap_alloc_new w (.cells #[.int .i64 0, .string ⟨#[]⟩] 66)
  have hal : Below w.heap.size w (w.alloc (.cells #[.int .i64 0, .string ⟨#[]⟩] 66)) := (Below.refl _ _).alloc (Nat.le_refl _) _
  obtain ⟨X, hX⟩ : ∃ q, q = w.heap.size := ⟨_, rfl⟩
  rw [← hX] at hz ⊢
  generalize w.alloc (.cells #[.int .i64 0, .string ⟨#[]⟩] 66) = w0 at *
  have HA := hid (HA.out.below hal)
  have HF := hid (Fr.bel (b := b) hal)
  have HX := hid hz
  have HN := hid (And.intro hX hbl)
  clear hz hal hX hbl
  go_wp2_with fail
  refine (Q1.out _ HA.out).mono ?_
  rintro e w1 ⟨rfl, ha, hf⟩
  have HA := hid ha
  have HX := hid (hf.heap HX.out (by have := HN.out; simp; omega))
  have HF := hid (HF.out.trans' hf)
  clear ha hf
  go_wp2_with fail
  refine (Q2.out _ HA.out).mono ?_
  rintro e w2 ⟨rfl, ha, hf⟩
  have HA := hid ha
  have HX := hid (hf.heap HX.out (by have := HN.out; simp; omega))
  have HF := hid (HF.out.trans' hf)
  clear ha hf
  go_wp2_with fail
  refine (Q3.out _ HA.out).mono ?_
  rintro e w6 ⟨rfl, ha, hf⟩
  have HA := hid ha
  have HX := hid (hf.heap HX.out (by have := HN.out; simp; omega))
  have HF := hid (HF.out.trans' hf)
  clear ha hf Q1 Q2 Q3
  have x0 : w6.cell? ⟨X, 0, none⟩ = some (.int .i64 0) := cell_at HX.out
  have x1 : w6.cell? ⟨X, 1, none⟩ = some (.string ⟨#[]⟩) := cell_at HX.out
  have f0 : w6.frozen? ⟨X, 0, none⟩ = false := free_at HX.out
  have f1 : w6.frozen? ⟨X, 1, none⟩ = false := free_at HX.out
  obtain ⟨c4, c5⟩ := two_cells' HX.out (.int .i64 (n1 : Int)) (.string s3)
  have HF2 := hid ((fr_wide (X := X) (Y := X) HF.out).trans' (c5 [b, X, X] (by simp)))
  have HA2 := hid (show RdAt b s z3 _ from ((c5 [X] (by simp)).block b HA.out.lt (by have := HN.out; simp; omega)).trans HA.out)
  have HC4 := hid c4
  clear c4 c5
  go_wp2_with fail
  refine bodyPost_ret (v := .agg #[.int .i64 (n1 : Int), .string s3]) (by simp [results, Tryz.results185, go_sem, x0, x1]) rfl ⟨rfl, HA2.out, fr_new HF2.out (by have := HN.out; omega) (by have := HN.out; omega)⟩

/-- It returns texts in a row of its own, the reader stands so. -/
def WitIs (b : Nat) (s : ByteArray) (z : Zst) (xs : List ByteArray) (w : World) (e : Ending) (w' : World) : Prop := ∃ v, e = .returned v ∧ w'.ownsRow w.heap.size 9 1 v xs.length (strCells xs) ∧ RdAt b s z w' ∧ Fr [b] w w'
theorem repZ_len {α : Type} (F : Prs α) (l : List UInt8) (z : Zst) : ∀ n, (repZ F n l z).2.length = n
  | 0 => rfl
  | n + 1 => by show ((repZ F n l z).2 ++ [_]).length = n + 1; rw [List.length_append, repZ_len F l z n]; rfl
theorem ownsRow_fr {w w' : World} {base e size n b : Nat} {v : Value} {xs : List Value} (h : w.ownsRow base e size v n xs) (hf : Fr [b] w w') (hb : b < base) : w'.ownsRow base e size v n xs :=
  ownsRow_of_block h fun k hk => hf.block k (h.lt k hk).2 (by have := (h.lt k hk).1; simp; omega)
set_option maxRecDepth 100000 in
set_option maxHeartbeats 2000000 in
theorem witness_any (b : Nat) (s : ByteArray) (z : Zst) (w : World) (h : RdAt b s z w) (hs : s.size ≤ 9223372036854775000) (hz : z.at_ ≤ s.size) :
    Calls Tryz.prog 186 #[.pointer (some ⟨b, 0, none⟩)] w (WitIs b s (witZ s.data.toList z).1 (witZ s.data.toList z).2 w) := by
  have HA := hid h
  have hbl := h.lt
  obtain ⟨z1, n, hz1⟩ : ∃ z1 n1, cntZ 0 4 6 s.data.toList z = (z1, n1) := ⟨_, _, rfl⟩
  have hr : witZ s.data.toList z = repZ itemZ n s.data.toList z1 := by unfold witZ cntRep mapZ seqZ; rw [hz1]
  rw [hr]
  have k1 := (cntZ_psr 0 4 6 (by decide) (by decide)).le' (s := s) hz
  rw [hz1] at k1
  dsimp only at k1
  have hn := cntZ_le 0 4 6 s.data.toList z
  rw [hz1] at hn
  dsimp only at hn
  have q1 : ∀ y, RdAt b s z y → _ := fun y hy => count_any b s z 0 4 6 y hy hs hz (by decide) (by decide) (by decide)
  simp only [hz1] at q1
  have Q1 := hid q1
  have HK := hid k1
  have HS := hid hs
  have HBL := hid hbl
  clear h hr hz1 k1 q1 hz hs hbl
  go_enter Tryz.func186, Tryz.ntmps186
  go_wp2_with fail
  refine (Q1.out _ HA.out).mono ?_
  rintro e w1 ⟨rfl, ha, hf⟩
  have HA := hid ha
  have HF := hid hf
  clear ha hf Q1
  go_wp2_with fail
  go_loopg [3, 6] n (fun g v vi wr => ∃ k : Nat, g = n - k ∧ k ≤ n ∧ vi = .int .i64 k ∧ RdAt b s (repZ itemZ k s.data.toList z1).1 wr ∧ Fr [b] w wr ∧ wr.ownsRow w.heap.size 9 1 v k (strCells (repZ itemZ k s.data.toList z1).2))
  case atStart => exact ⟨0, rfl, by omega, rfl, HA.out, HF.out, World.ownsRow_nil _ _ _ _⟩
  case round =>
    clear HA HF
    rename World => wr
    obtain ⟨k, hgk, hk, rfl, ha, hf, hown⟩ := hrel
    have HGK := hid hgk
    have HF := hid hf
    obtain ⟨zk, xs, hzx⟩ : ∃ zk xs, repZ itemZ k s.data.toList z1 = (zk, xs) := ⟨_, _, rfl⟩
    have hxl := repZ_len itemZ s.data.toList z1 k
    have hzl := ((cntText_psr 80 20 (by decide) (by decide)).rep k).le' HK.out
    have hzl : (repZ itemZ k s.data.toList z1).1.at_ ≤ s.size := hzl
    rw [hzx] at ha hown hzl hxl
    dsimp only at ha hown hzl hxl
    obtain ⟨a, c, rfl, hc1, hc2⟩ := ownsRow_shape hown
    have HA := hid ha
    have HO := hid hown
    clear hgk hf ha hown
    by_cases hlt : k < n
    · obtain ⟨z5, n5, hz5⟩ : ∃ z5 n5, cntZ 0 80 20 s.data.toList zk = (z5, n5) := ⟨_, _, rfl⟩
      obtain ⟨z6, s6, hz6⟩ : ∃ z6 s6, textZ n5 s.data.toList z5 = (z6, s6) := ⟨_, _, rfl⟩
      have hst : repZ itemZ (k + 1) s.data.toList z1 = (z6, xs ++ [s6]) := by
        show ((itemZ s.data.toList (repZ itemZ k s.data.toList z1).1).1, _ ++ [(itemZ s.data.toList (repZ itemZ k s.data.toList z1).1).2]) = _
        rw [hzx]
        unfold itemZ cntText mapZ seqZ
        dsimp only
        rw [hz5]
        dsimp only
        rw [hz6]
      have k5 := (cntZ_psr 0 80 20 (by decide) (by decide)).le' (s := s) hzl
      rw [hz5] at k5
      dsimp only at k5
      have hn5 := cntZ_le 0 80 20 s.data.toList zk
      rw [hz5] at hn5
      dsimp only at hn5
      have q1 : ∀ y, RdAt b s zk y → _ := fun y hy => count_any b s zk 0 80 20 y hy HS.out hzl (by decide) (by decide) (by decide)
      have q2 : ∀ y, RdAt b s z5 y → _ := fun y hy => bytes_any b s z5 n5 y hy HS.out k5 (by omega)
      simp only [hz5] at q1
      simp only [hz6] at q2
      have Q1 := hid q1
      have Q2 := hid q2
      have HST := hid hst
      clear q1 q2 hst hz5 hz6 hn5 k5 hzl hzx hxl
      go_wp2_with fail
      refine (Q1.out _ HA.out).mono ?_
      rintro e w2 ⟨rfl, ha, hf⟩
      have HA := hid ha
      have HO := hid (ownsRow_fr HO.out hf HBL.out)
      have HF := hid (HF.out.trans' hf)
      clear ha hf
      go_wp2_with fail
      refine (Q2.out _ HA.out).mono ?_
      rintro e w3 ⟨rfl, ha, hf⟩
      have HA := hid ha
      have HO := hid (ownsRow_fr HO.out hf HBL.out)
      have HF := hid (HF.out.trans' hf)
      clear ha hf Q1 Q2
      obtain ⟨i0, hi, hz0, hz1, hz2⟩ := info_parts info_str
      obtain ⟨a2, c2, w4, hrun, hown2, hb2, hg2, hv2⟩ := append_one (P := Tryz.prog) Tryz.underlying67 hi hz0 hz1 hz2 rfl HO.out #[.string s6] rfl (by simp [Value.oneCell']) (by rw [maxLen_eq]; omega) (by omega) HF.out.size (ty := 67)
      have hbm := hb2.mono (show b + 1 ≤ w.heap.size from HBL.out)
      have HA4 := hid (show RdAt b s z6 w4 from (hbm.block b (Nat.lt_succ_self b)).trans HA.out)
      have HF4 := hid (show Fr [b] w w4 from ⟨hb2.os.trans HF.out.os, hb2.tape.trans HF.out.tape, hb2.output.trans HF.out.output, Nat.le_trans HF.out.size hb2.size, fun i hi hn => (hb2.block i hi).trans (HF.out.block i hi hn)⟩)
      have HO4 := hid (show w4.ownsRow w.heap.size 9 1 (.slice a2 (k + 1) c2) (k + 1) (strCells (xs ++ [s6])) by simpa [strCells] using hown2)
      have HR := hid hrun
      clear hrun hown2 hb2 hg2 hv2 hbm hi hz0 hz1 hz2 i0 HA HF HO
      go_wp2_with (at_builtin; refine wpList_append_run rfl (.tmp 8) (.tmp 13) 67 67 rfl rfl rfl HR.out ?_)
      go_roundg (n - (k + 1))
      case measure => have := HGK.out; omega
      case rel => exact ⟨k + 1, rfl, by omega, by go_num, by rw [HST.out]; exact HA4.out, HF4.out, by rw [HST.out]; exact HO4.out⟩
    · obtain rfl : k = n := by omega
      have HZX := hid hzx
      have HXL := hid hxl
      clear hzx hxl hzl
      go_wp2_with fail
      go_ret
      exact ⟨_, rfl, by rw [HZX.out]; dsimp only; rw [HXL.out]; exact HO.out, by rw [HZX.out]; exact HA.out, HF.out⟩
end Go.Proofs.YtaooibocknemkaaGreat
end

section
namespace Go.Proofs.YtaooibocknemkaaGreat
open Go.RowKit Go.BigFrame
set_option linter.unusedVariables false
set_option linter.unusedSimpArgs false

/-- The reader in block b, the result's box X, the transaction's box Y, its rows behind Y. -/
structure RD (w : World) (b X Y : Nat) (s : ByteArray) (ver : Nat) (z : Zst) (vi vo : Value) (xs : List PIn) (os : List POut) (wr : World) : Prop where
  rd : RdAt b s z wr
  fr : Fr [b] w wr
  x : wr.heap[X]? = some (.cells #[.int .u32 0, .slice none 0 0, .slice none 0 0, .int .u32 0] 26 (0, 0))
  y : wr.heap[Y]? = some (.cells #[.int .u32 ver, vi, vo, .int .u32 0] 26 (0, 0))
  ins : ∃ ps, xs = ps.map (·.1) ∧ InsOwn (Y + 1) wr vi ps ∧ ∀ k, vo.ownBlock = some k → ¬ InsHas vi ps k
  outs : OutsOwn (Y + 1) wr vo os
  num : b < w.heap.size ∧ w.heap.size ≤ X ∧ X < Y
section
variable {w wr w' : World} {b X Y ver : Nat} {s : ByteArray} {z z' : Zst} {vi vo : Value} {xs : List PIn} {os : List POut}
theorem RD.ylt (h : RD w b X Y s ver z vi vo xs os wr) : Y < wr.heap.size := (Array.getElem?_eq_some_iff.1 h.y).1
theorem RD.call (h : RD w b X Y s ver z vi vo xs os wr) (ha : RdAt b s z' w') (hf : Fr [b] wr w') : RD w b X Y s ver z' vi vo xs os w' := by
  have hn := h.num
  obtain ⟨ps, hp, h1, h2⟩ := h.ins
  exact ⟨ha, h.fr.trans' hf, hf.heap h.x (by simp; omega), hf.heap h.y (by simp; omega), ⟨ps, hp, h1.kept fun k hk => hf.block k (h1.lt hk).2 (by have := (h1.lt hk).1; simp; omega), h2⟩,
    h.outs.kept fun k hk => hf.block k (h.outs.row.lt k hk).2 (by have := (h.outs.row.lt k hk).1; simp; omega), hn⟩
theorem RD.below (h : RD w b X Y s ver z vi vo xs os wr) (hb : Below wr.heap.size wr w') : RD w b X Y s ver z vi vo xs os w' := h.call (h.rd.below hb) (Fr.bel hb)
theorem RD.tx (h : RD w b X Y s ver z vi vo xs os wr) (hv : ver < 4294967296) : TxAt wr (.agg #[.int .u32 ver, vi, vo, .int .u32 0]) ⟨ver, xs, os, 0⟩ := by
  obtain ⟨ps, rfl, h1, h2⟩ := h.ins
  exact ⟨vi, vo, rfl, h1.sl, h.outs.sl, hv, by show (0 : Nat) < _; omega⟩
theorem RD.own (h : RD w b X Y s ver z vi vo xs os wr) (hv : ver < 4294967296) (lock : Nat) (hl : lock < 4294967296) : TxOwn (Y + 1) wr (.agg #[.int .u32 ver, vi, vo, .int .u32 lock]) ⟨ver, xs, os, lock⟩ := by
  obtain ⟨ps, rfl, h1, h2⟩ := h.ins
  exact ⟨⟨vi, vo, ps, rfl, rfl, h1, h.outs, h2⟩, hv, hl⟩
theorem RD.ilen (h : RD w b X Y s ver z vi vo xs os wr) : ∃ a c, vi = .slice a xs.length c ∧ xs.length ≤ c ∧ c ≤ maxLen := by
  obtain ⟨ps, rfl, h1, -⟩ := h.ins
  rw [List.length_map]
  exact ownsRow_shape h1.row
theorem RD.olen (h : RD w b X Y s ver z vi vo xs os wr) : ∃ a c, vo = .slice a os.length c ∧ os.length ≤ c ∧ c ≤ maxLen := ownsRow_shape h.outs.row
/-- The transaction's box at another world in which its own block has been written alone. -/
theorem frY (hX : Fr [b] w wr) (hb : w.heap.size ≤ Y) (j : Nat) (u : Value) : Fr [b] w (wr.setCell ⟨Y, j, none⟩ u) := by
  refine (fr_wide (X := Y) (Y := Y) hX).trans' (Fr.setCell wr ⟨Y, j, none⟩ u (by simp)) |>.mono fun k hk => ?_
  simp only [List.mem_cons, List.not_mem_nil, or_false] at hk
  rcases hk with rfl | rfl | rfl
  · exact .inl (by simp)
  · exact .inr hb
  · exact .inr hb
/-- One In more. -/
theorem RD.addIn {a : Option Addr} {n c : Nat} (h : RD w b X Y s ver z (.slice a n c) vo xs os wr) (hn : n ≤ 1000) (x : PIn) (hw : x.wit = []) (hx : OkIn x) :
    ∃ a' c' w', (Builtin.append_ #[23, 23] 23 #[.slice a n c, .slice (some ⟨wr.heap.size, 0, none⟩) 1 1]).run Tryz.prog (wr.alloc (.cells #[.string x.id, .int .u32 x.idx, .int .u32 x.seq, .slice none 0 0] 69)) = .ok (.slice a' (n + 1) c') w' ∧
      w'.heap[Y]? = wr.heap[Y]? ∧ RD w b X Y s ver z (.slice a' (n + 1) c') vo (xs ++ [x]) os (w'.setCell ⟨Y, 1, none⟩ (.slice a' (n + 1) c')) := by
  obtain ⟨ps, rfl, h1, h2⟩ := h.ins
  have hyl := h.ylt
  have hnum := h.num
  have hl : ps.length = n := by
    obtain ⟨a9, c9, e9, -, -⟩ := ownsRow_shape h1.row
    have : n = ps.length := by simpa using (congrArg (fun v => match v with | .slice _ n _ => n | _ => 0) e9)
    exact this.symm
  subst hl
  obtain ⟨i0, hi, hz0, hz1, hz2⟩ := info_parts info_in
  obtain ⟨a3, c3, w3, hrun, hown3, hb3, hg3, hv3⟩ := append_one (P := Tryz.prog) Tryz.underlying23 hi hz0 hz1 hz2 rfl h1.row #[.string x.id, .int .u32 x.idx, .int .u32 x.seq, .slice none 0 0] rfl (by simp [Value.oneCell']) (by rw [maxLen_eq]; omega) (by omega) (by omega) (ty := 23)
  have hkeep : ∀ k, k < wr.heap.size → (Value.slice a ps.length c).ownBlock ≠ some k → w3.heap[k]? = wr.heap[k]? := fun k hk hne => by
    rw [hg3.block k (by simp; omega) (fun e => hne e.symm)]
    exact Below.heap_alloc _ _ k hk
  have hbw : ∀ k, k ≤ Y → w3.heap[k]? = wr.heap[k]? := fun k hk => hb3.block k (by omega)
  have hsz : wr.heap.size ≤ w3.heap.size := hb3.size
  have hsn : InsOwn (Y + 1) w3 (.slice a3 (ps.length + 1) c3) (ps ++ [(x, .slice none 0 0)]) := by
    refine h1.snoc hown3 ?_ hkeep ?_ hx (fun k e => by cases e)
    · rcases hv3 with e | e
      · exact .inl e
      · exact .inr ⟨_, e, by omega, by simp [Value.ownBlock]⟩
    · rw [hw]; exact World.ownsRow_nil _ _ _ _
  refine ⟨a3, c3, w3, hrun, hbw Y (Nat.le_refl _), ?_⟩
  have hset : ∀ k, k ≠ Y → (w3.setCell ⟨Y, 1, none⟩ (.slice a3 (ps.length + 1) c3)).heap[k]? = w3.heap[k]? := fun k hk => Below.heap_setCell _ _ _ _ hk
  have hout : OutsOwn (Y + 1) w3 vo os := h.outs.kept fun k hk => hkeep k (h.outs.row.lt k hk).2 fun e => h2 k hk (.inl e)
  refine ⟨(hset b (by omega)).trans ((hbw b (by omega)).trans h.rd), frY ?_ (by omega) _ _, (hset X (by omega)).trans ((hbw X (by omega)).trans h.x), heap_setCell_at ((hbw Y (Nat.le_refl _)).trans h.y), ⟨_, ?_, hsn.store _ _ (fun hh => by have := (hsn.lt hh).1; dsimp only at this; omega), fun k hk hh => ?_⟩, hout.kept fun k hk => hset k (by have := (hout.row.lt k hk).1; omega), hnum⟩
  · exact ⟨hb3.os.trans h.fr.os, hb3.tape.trans h.fr.tape, hb3.output.trans h.fr.output, Nat.le_trans h.fr.size hsz, fun k hk hn => (hbw k (by omega)).trans (h.fr.block k hk hn)⟩
  · simp
  · have hko := (h.outs.row.lt k hk).2
    rcases hh with hh | ⟨i, p, hp, hh⟩
    · rcases hv3 with e | e
      · exact h2 k hk (.inl (e ▸ hh))
      · rw [e] at hh; have := Option.some.inj hh; omega
    · rw [List.getElem?_append] at hp
      split at hp
      · exact h2 k hk (.inr ⟨i, p, hp, hh⟩)
      · have hp2 : p = (x, .slice none 0 0) := by
          have := List.mem_of_getElem? hp
          simpa using this
        rw [hp2] at hh
        cases hh
/-- One Out more. -/
theorem RD.addOut {a : Option Addr} {n c : Nat} (h : RD w b X Y s ver z vi (.slice a n c) xs os wr) (hn : n ≤ 1000) (x : POut) (hx : OkOut x) :
    ∃ a' c' w', (Builtin.append_ #[24, 24] 24 #[.slice a n c, .slice (some ⟨wr.heap.size, 0, none⟩) 1 1]).run Tryz.prog (wr.alloc (.cells #[.int .i64 x.val, .string x.script] 66)) = .ok (.slice a' (n + 1) c') w' ∧
      w'.heap[Y]? = wr.heap[Y]? ∧ RD w b X Y s ver z vi (.slice a' (n + 1) c') xs (os ++ [x]) (w'.setCell ⟨Y, 2, none⟩ (.slice a' (n + 1) c')) := by
  obtain ⟨ps, rfl, h1, h2⟩ := h.ins
  have hyl := h.ylt
  have hnum := h.num
  have hl : os.length = n := by
    obtain ⟨a9, c9, e9, -, -⟩ := ownsRow_shape h.outs.row
    have : n = os.length := by simpa using (congrArg (fun v => match v with | .slice _ n _ => n | _ => 0) e9)
    exact this.symm
  subst hl
  obtain ⟨i0, hi, hz0, hz1, hz2⟩ := info_parts info_out
  obtain ⟨a3, c3, w3, hrun, hown3, hb3, hg3, hv3⟩ := append_one (P := Tryz.prog) Tryz.underlying24 hi hz0 hz1 hz2 rfl h.outs.row #[.int .i64 x.val, .string x.script] rfl (by simp [Value.oneCell']) (by rw [maxLen_eq]; omega) (by omega) (by omega) (ty := 24)
  have hkeep : ∀ k, k < wr.heap.size → (Value.slice a os.length c).ownBlock ≠ some k → w3.heap[k]? = wr.heap[k]? := fun k hk hne => by
    rw [hg3.block k (by simp; omega) (fun e => hne e.symm)]
    exact Below.heap_alloc _ _ k hk
  have hbw : ∀ k, k ≤ Y → w3.heap[k]? = wr.heap[k]? := fun k hk => hb3.block k (by omega)
  have hsz : wr.heap.size ≤ w3.heap.size := hb3.size
  have hset : ∀ k, k ≠ Y → (w3.setCell ⟨Y, 2, none⟩ (.slice a3 (os.length + 1) c3)).heap[k]? = w3.heap[k]? := fun k hk => Below.heap_setCell _ _ _ _ hk
  have hins : InsOwn (Y + 1) w3 vi ps := h1.kept fun k hk => hkeep k (h1.lt hk).2 fun e => h2 k e hk
  refine ⟨a3, c3, w3, hrun, hbw Y (Nat.le_refl _), ?_⟩
  refine ⟨(hset b (by omega)).trans ((hbw b (by omega)).trans h.rd), frY ?_ (by omega) _ _, (hset X (by omega)).trans ((hbw X (by omega)).trans h.x), heap_setCell_at ((hbw Y (Nat.le_refl _)).trans h.y), ⟨ps, rfl, hins.kept fun k hk => hset k (by have := (hins.lt hk).1; omega), fun k hk hh => ?_⟩, ⟨?_, fun y hy => ?_⟩, hnum⟩
  · exact ⟨hb3.os.trans h.fr.os, hb3.tape.trans h.fr.tape, hb3.output.trans h.fr.output, Nat.le_trans h.fr.size hsz, fun k hk hn => (hbw k (by omega)).trans (h.fr.block k hk hn)⟩
  · rcases hv3 with e | e
    · exact h2 k (e ▸ hk) hh
    · rw [e] at hk; have := Option.some.inj hk; have := (h1.lt hh).2; omega
  · have e : outsCells (os ++ [x]) = outsCells os ++ [.int .i64 x.val, .string x.script] := by simp [outsCells, outRow]
    rw [e, List.length_append]
    exact ownsRow_other hown3 _ _ (fun e => by have := (hown3.lt Y e).1; omega)
  · rcases List.mem_append.1 hy with hy | hy
    · exact h.outs.ok y hy
    · rw [List.mem_singleton.1 hy]; exact hx
/-- An In's witness, of texts in a new row. -/
theorem RD.wit {i N : Nat} {x : PIn} {wv : Value} {l' : List ByteArray} (h : RD w b X Y s ver z vi vo xs os wr) (hi : xs[i]? = some x) (ha : RdAt b s z' w') (hf : Fr [b] wr w') (hN : N = wr.heap.size)
    (hrow : w'.ownsRow N 9 1 wv l'.length (strCells l')) (hok : okStrs l') :
    ∃ b0 c v0, vi = .slice (some ⟨b0, 0, none⟩) xs.length c ∧ w'.cell? ⟨b0, i * 4 + 3, none⟩ = some v0 ∧ w'.frozen? ⟨b0, i * 4 + 3, none⟩ = false ∧
      RD w b X Y s ver z' vi vo (xs.set i { x with wit := l' }) os (w'.setCell ⟨b0, i * 4 + 3, none⟩ wv) := by
  have hc := h.call ha hf
  subst hN
  obtain ⟨ps, rfl, h1, h2⟩ := h.ins
  have h1' : InsOwn (Y + 1) w' vi ps := h1.kept fun k hk => hf.block k (h1.lt hk).2 (by have := (h1.lt hk).1; have := h.num; simp; omega)
  rw [List.getElem?_map] at hi
  obtain ⟨⟨y, v0⟩, hp, rfl⟩ := Option.map_eq_some_iff.1 hi
  obtain ⟨a, c, rfl, hc1, hc2⟩ := ownsRow_shape h1.row
  obtain ⟨b0, rfl, hb1, hb2, e0, e1, e2, e3⟩ := h1'.at hp
  have hyl := h.ylt
  have hnum := h.num
  have hfresh : ∀ G, wv.ownBlock = some G → wr.heap.size ≤ G := fun G e => (hrow.lt G e).1
  have hokx := h1.ok i _ hp
  have hset := h1'.set (p' := ({ y with wit := l' }, wv)) hp 3 wv (by omega) rfl (ownsRow_base hrow (by omega)) ⟨hokx.id, hokx.idx, hokx.seq, hok⟩ (by
    cases e : wv.ownBlock with
    | none => exact .inr (.inl rfl)
    | some G => exact .inr (.inr ⟨G, rfl, fun hh => by have := (h1.lt hh).2; have := hfresh G e; omega⟩))
  have hb0 : b0 < wr.heap.size := (h1.lt (.inl rfl)).2
  have hsc : ∀ k, k ≠ b0 → (w'.setCell ⟨b0, i * 4 + 3, none⟩ wv).heap[k]? = w'.heap[k]? := fun k hk => Below.heap_setCell _ _ _ _ hk
  refine ⟨b0, c, v0, by rw [List.length_map], e3, ownsRow_free h1'.row _, ?_⟩
  refine ⟨(hsc b (by omega)).trans ha, frY hc.fr (by omega) _ _, (hsc X (by omega)).trans hc.x, (hsc Y (by omega)).trans hc.y, ⟨_, (List.map_set (f := Prod.fst) (l := ps) (i := i) (a := ({ y with wit := l' }, wv))).symm, hset, fun k hk hh => ?_⟩, hc.outs.kept fun k hk => hsc k fun e => h2 k hk (.inl (by rw [e]; rfl)), hnum⟩
  have hko := (h.outs.row.lt k hk).2
  rcases hh with hh | ⟨j, q, hq, hh⟩
  · exact h2 k hk (.inl hh)
  · by_cases hij : i = j
    · subst hij
      rw [List.getElem?_set_self (List.getElem?_eq_some_iff.1 hp).1] at hq
      obtain rfl := Option.some.inj hq
      have := hfresh k hh
      omega
    · rw [List.getElem?_set_ne hij] at hq
      exact h2 k hk (.inr ⟨j, q, hq, hh⟩)
end
end Go.Proofs.YtaooibocknemkaaGreat
end
