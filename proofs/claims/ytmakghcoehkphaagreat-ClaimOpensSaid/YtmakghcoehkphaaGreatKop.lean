/-
  ClaimOpens: the walk. Conditions: the claims lie in memory, the numbers are ones of their kinds.
-/
import Derived.Test.YtmakghcoehkphaaGreatKsz
import Derived.Test.YtmakghcoehkphaaGreatQ11ClaimBuilds
import Derived.Test.YtmakghcoehkphaaGreatQ8ClaimBuilds
import Derived.Test.YtmakghcoehkphaaGreatQ5ClaimBuilds
namespace Go.Proofs.YtmakghcoehkphaaGreat
open Go.RowKit Go.BigFrame
set_option linter.unusedVariables false
set_option linter.unusedSimpArgs false

/-! ### the plain law -/
def opC (tag : Nat) (c : PCl) : PCl := ⟨c.id, c.idx, max 0 c.val % 100000, max 0 c.br % 3, ⟨tag, c.lock.delay, c.lock.height % 1000001⟩, c.dead⟩
def vsumO (l : List PCl) (k : Nat) : Int := ((l.take k).map fun c => max 0 c.val % 100000).sum
theorem vsumO_step {l : List PCl} {k : Nat} {x : PCl} (h : l[k]? = some x) : vsumO l (k + 1) = vsumO l k + max 0 x.val % 100000 := by
  unfold vsumO
  rw [take_snoc h, List.map_append, List.sum_append]
  simp
theorem vsumO_le (l : List PCl) : ∀ k : Nat, k ≤ l.length → 0 ≤ vsumO l k ∧ vsumO l k ≤ 100000 * k
  | 0, _ => by simp [vsumO]
  | k + 1, h => by
    have h1 := vsumO_le l k (by omega)
    have hx : l[k]? = some l[k] := List.getElem?_eq_getElem (by omega)
    rw [vsumO_step hx]
    omega
theorem vsumO_all (l : List PCl) (tag : Nat) : ((l.map (opC tag)).map (·.val)).sum = vsumO l l.length := by
  unfold vsumO
  rw [List.take_length, List.map_map]
  rfl
theorem sumA_val : ∀ (l : List Int) (s : Int), (sumA s l).2 = 0 → (sumA s l).1 = s + l.sum
  | [], s, _ => by simp [sumA]
  | a :: l, s, h => by
    unfold sumA at h ⊢
    split at h
    · rename_i h1
      rw [if_pos h1, sumA_val l _ h, List.sum_cons]
      omega
    · exact absurd h (by decide)
theorem opC_mem {l : List PCl} {tag i : Nat} {y : PCl} (h : (l.map (opC tag))[i]? = some y) : y.lock.tag = tag ∧ y.lock.height ≤ 1000000 ∧ 0 ≤ y.br ∧ y.br ≤ 2 := by
  rw [List.getElem?_map] at h
  obtain ⟨x, -, rfl⟩ := Option.map_eq_some_iff.1 h
  refine ⟨rfl, ?_, ?_, ?_⟩
  · show x.lock.height % 1000001 ≤ 1000000; omega
  · show 0 ≤ max 0 x.br % 3; omega
  · show max 0 x.br % 3 ≤ 2; omega
theorem threeK {b : PBr} (h : b.height ≤ 1000000) (hb : b.Ok) : ∃ l : List UInt8, lockPut [b, b, b] = (l, 0) ∧ l.length = 25 ∧ lockGet ⟨l.toArray⟩ = some [b, b, b] := by
  have hp : lockPut [b, b, b] = (leB 3 1 ++ [b, b, b].flatMap putBr, 0) := lockPut_ok (by simp) (by
    have : tooHigh b = false := decide_eq_false (by omega)
    simp [this])
  refine ⟨_, hp, by rw [List.length_append, putBrs_len, leB_length]; rfl, lockGet_put (A := [b, b, b]) (fun x hx => ?_) hp⟩
  have : x = b := by simpa using hx
  subst this
  exact hb
theorem oneK {tag : Nat} (ht : tag < 65536) : lockGet (scrT tag) = some [⟨tag, 0, 0⟩] := lockGet_put (A := [⟨tag, 0, 0⟩]) (fun x hx => by
    have : x = ⟨tag, 0, 0⟩ := by simpa using hx
    subst this
    exact ⟨ht, by show 0 < 65536; omega, by show 0 < 4294967296; omega⟩) (lockPut_one tag)
theorem sl_threeK (w : World) (b : PBr) (hb : b.Ok) : SlAt rpBr (w.alloc (.cells #[.int .u16 b.tag, .int .u16 b.delay, .int .u32 b.height, .int .u16 b.tag, .int .u16 b.delay, .int .u32 b.height, .int .u16 b.tag, .int .u16 b.delay, .int .u32 b.height] 32)) (.slice (some ⟨w.heap.size, 0, none⟩) 3 3) [b, b, b] := by
  refine ⟨_, 3, rfl, Nat.le_refl _, by decide, fun i x hi => ?_⟩
  have hx : x = b := by
    have := List.mem_of_getElem? hi
    simpa using this
  subst hx
  have hil : i < 3 := (List.getElem?_eq_some_iff.1 hi).1
  refine ⟨_, 0, [.int .u16 x.tag, .int .u16 x.delay, .int .u32 x.height], rfl, rfl, fun j u hj => ?_, rfl, hb⟩
  rw [cell_at (heap_alloc_new w _)]
  have hjl : j < 3 := (List.getElem?_eq_some_iff.1 hj).1
  obtain rfl | rfl | rfl : i = 0 ∨ i = 1 ∨ i = 2 := by omega
  all_goals
    obtain rfl | rfl | rfl : j = 0 ∨ j = 1 ∨ j = 2 := by omega
    all_goals exact hj
/-! ### a claim of the call's own is changed -/
theorem ClsOwn.setVB {base : Nat} {w : World} {b n c : Nat} {l : List PCl} (h : ClsOwn base w (.slice (some ⟨b, 0, none⟩) n c) l) {i : Nat} {x : PCl} (hi : l[i]? = some x) {v2 v3 : Int}
    (h2 : -9223372036854775808 ≤ v2 ∧ v2 ≤ 9223372036854775807) (h3 : -9223372036854775808 ≤ v3 ∧ v3 ≤ 9223372036854775807) :
    ClsOwn base ((w.setCell ⟨b, i * 8 + 2, none⟩ (.int .i64 v2)).setCell ⟨b, i * 8 + 3, none⟩ (.int .i64 v3)) (.slice (some ⟨b, 0, none⟩) n c) (l.set i ⟨x.id, x.idx, v2, v3, x.lock, x.dead⟩) := by
  have hil := (List.getElem?_eq_some_iff.1 hi).1
  have hy := h.ok x (List.mem_of_getElem? hi)
  have at_ : ∀ (l' : List PCl) (z : PCl), i < l'.length → (l'.set i z)[i]? = some z := fun l' z hl => by simp [hl]
  have k2 := h.set hi 2 (.int .i64 v2) (by decide) (x' := ⟨x.id, x.idx, v2, x.br, x.lock, x.dead⟩) rfl ⟨hy.id, hy.idx, h2, hy.br, hy.lock, hy.dead⟩
  have k3 := k2.set (at_ _ _ hil) 3 (.int .i64 v3) (by decide) (x' := ⟨x.id, x.idx, v2, v3, x.lock, x.dead⟩) rfl ⟨hy.id, hy.idx, h2, h3, hy.lock, hy.dead⟩
  rw [List.set_set] at k3
  exact k3
theorem ClsOwn.setTH {base : Nat} {w : World} {b n c : Nat} {l : List PCl} (h : ClsOwn base w (.slice (some ⟨b, 0, none⟩) n c) l) {i : Nat} {x : PCl} (hi : l[i]? = some x) {tg hh : Nat} (h4 : tg < 65536) (h6 : hh < 4294967296) :
    ClsOwn base ((w.setCell ⟨b, i * 8 + 4, none⟩ (.int .u16 tg)).setCell ⟨b, i * 8 + 6, none⟩ (.int .u32 hh)) (.slice (some ⟨b, 0, none⟩) n c) (l.set i ⟨x.id, x.idx, x.val, x.br, ⟨tg, x.lock.delay, hh⟩, x.dead⟩) := by
  have hil := (List.getElem?_eq_some_iff.1 hi).1
  have hy := h.ok x (List.mem_of_getElem? hi)
  have at_ : ∀ (l' : List PCl) (z : PCl), i < l'.length → (l'.set i z)[i]? = some z := fun l' z hl => by simp [hl]
  have k4 := h.set hi 4 (.int .u16 tg) (by decide) (x' := ⟨x.id, x.idx, x.val, x.br, ⟨tg, x.lock.delay, x.lock.height⟩, x.dead⟩) rfl ⟨hy.id, hy.idx, hy.val, hy.br, ⟨h4, hy.lock.delay, hy.lock.height⟩, hy.dead⟩
  have k6 := k4.set (at_ _ _ hil) 6 (.int .u32 hh) (by decide) (x' := ⟨x.id, x.idx, x.val, x.br, ⟨tg, x.lock.delay, hh⟩, x.dead⟩) rfl ⟨hy.id, hy.idx, hy.val, hy.br, ⟨h4, hy.lock.delay, h6⟩, hy.dead⟩
  rw [List.set_set] at k6
  exact k6
theorem put3_any (b : PBr) (hb : b.Ok) (hh : b.height ≤ 1000000) (w : World) : Calls Tryz.prog 27 #[.slice (some ⟨w.heap.size, 0, none⟩) 3 3] (w.alloc (.cells #[.int .u16 b.tag, .int .u16 b.delay, .int .u32 b.height, .int .u16 b.tag, .int .u16 b.delay, .int .u32 b.height, .int .u16 b.tag, .int .u16 b.delay, .int .u32 b.height] 32)) fun e w' =>
    ∃ s : ByteArray, e = .returned (.tuple #[.string s, .int .i64 0]) ∧ s.size ≤ 9223372036854775807 ∧ lockGet s = some [b, b, b] ∧ Below w.heap.size w w' := by
  obtain ⟨l, h1, h2, h3⟩ := threeK hh hb
  refine (lput_any _ [b, b, b] _ (sl_threeK w b hb)).mono ?_
  rintro e w' ⟨rfl, hb'⟩
  rw [h1]
  exact ⟨_, rfl, by rw [mk_size, h2]; decide, h3, ((Below.refl _ _).alloc (Nat.le_refl _) _).trans (hb'.mono (by simp))⟩
theorem set_at {l : List PCl} {k : Nat} {x : PCl} (h : l[k]? = some x) (y z : PCl) : (l.set k y)[k]? = some y ∧ (l.set k y).set k z = l.set k z := by
  have hk := (List.getElem?_eq_some_iff.1 h).1
  exact ⟨by simp [hk], List.set_set ..⟩
set_option maxRecDepth 100000 in
set_option maxHeartbeats 8000000 in
theorem claimOpens_walk (vl : Value) (l : List PCl) (z : PRw) (w : World) (hv : SlAt rpCl w vl l) (hz : z.Ok) : Calls Tryz.prog 8 #[.agg (rwCells vl z)] w (BIs true w) := by
  have HOK := Lib.hid hz
  have HV := Lib.hid hv
  have hpl := ofQ_len hz
  have hpi := ofI_lt hz
  obtain ⟨sp, hsp⟩ : ∃ s, s = ofQ z := ⟨_, rfl⟩
  obtain ⟨si, hsi⟩ : ∃ s, s = ofI z := ⟨_, rfl⟩
  have HOF := Lib.hid (fun y (h : SlAt rpCl y vl l) => cof_any vl l z 32 y hz h (by decide))
  have HSP := Lib.hid hsp
  have HSI := Lib.hid hsi
  rw [← hsp] at hpl
  rw [← hsi] at hpi
  have HPL := Lib.hid hpl
  have htg := hz.tag
  obtain ⟨va, vc, rfl, -, -⟩ := hv.shape
  have hlen : (ofL z.odd (l.take 32)).length ≤ 32 := by rw [ofL_len, List.length_take]; omega
  obtain ⟨ll, hll⟩ : ∃ q, q = ofL z.odd (l.take 32) := ⟨_, rfl⟩
  rw [← hll] at hlen
  have HLL := Lib.hid hll
  generalize l.length = n0 at *
  unfold rwCells at HOF ⊢
  clear hsp hsi hz hv hpl hll
  go_enter Tryz.func8, Tryz.ntmps8
  go_upto_region 1 with fail
  have hz := heap_alloc_new w (.cells #[.slice va n0 vc, .string z.pid, .int .u32 z.pidx, .int .i64 z.val, .int .u16 z.tag, .int .i64 z.fee, .bool z.odd] 28)
  have hal : Below w.heap.size w (w.alloc (.cells #[.slice va n0 vc, .string z.pid, .int .u32 z.pidx, .int .i64 z.val, .int .u16 z.tag, .int .i64 z.fee, .bool z.odd] 28)) := (Below.refl _ _).alloc (Nat.le_refl _) _
  obtain ⟨X, hX⟩ : ∃ q, q = w.heap.size := ⟨_, rfl⟩
  rw [← hX] at hz ⊢
  generalize w.alloc (.cells #[.slice va n0 vc, .string z.pid, .int .u32 z.pidx, .int .i64 z.val, .int .u16 z.tag, .int .i64 z.fee, .bool z.odd] 28) = w0 at *
  have HZ0 := Lib.hid hz
  have HB0 := Lib.hid hal
  have hX1 : w.heap.size ≤ X := by omega
  have hX2 : X < w0.heap.size := lt_of hz
  have z0 : w0.cell? ⟨X, 0, none⟩ = some (.slice va n0 vc) := cell_at hz
  have z1 : w0.cell? ⟨X, 1, none⟩ = some (.string z.pid) := cell_at hz
  have z2 : w0.cell? ⟨X, 2, none⟩ = some (.int .u32 z.pidx) := cell_at hz
  have z3 : w0.cell? ⟨X, 3, none⟩ = some (.int .i64 z.val) := cell_at hz
  have z4 : w0.cell? ⟨X, 4, none⟩ = some (.int .u16 z.tag) := cell_at hz
  have z5 : w0.cell? ⟨X, 5, none⟩ = some (.int .i64 z.fee) := cell_at hz
  have z6 : w0.cell? ⟨X, 6, none⟩ = some (.bool z.odd) := cell_at hz
  have HOF := Lib.hid (HOF.out w0 (HV.out.below hal))
  clear hz hal hX
  go_wp2_with fail
  refine HOF.out.mono ?_
  rintro e w2 ⟨v1, rfl, hown, hb⟩
  rw [← HLL.out] at hown
  rw [← HSP.out, ← HSI.out]
  have HB3 := Lib.hid (HB0.out.trans (hb.mono HB0.out.size))
  have HZ3 := Lib.hid (stay HZ0.out hb)
  have HOWN := Lib.hid hown
  obtain ⟨B, hB⟩ : ∃ B, B = w0.heap.size := ⟨_, rfl⟩
  rw [← hB] at HOWN hX2
  have HBW := Lib.hid (show w.heap.size ≤ B by rw [hB]; exact HB0.out.size)
  clear hb hown HB0 HOF z0 z1 z2 z3 z4 z5 z6 hB HZ0
  obtain ⟨a1, c1, hv1, -, -⟩ := ownsRow_shape HOWN.out.row
  subst hv1
  obtain ⟨n1, hn1⟩ : ∃ q, q = ll.length := ⟨_, rfl⟩
  rw [← hn1] at HOWN hlen ⊢
  have HN1 := Lib.hid hn1
  clear hn1
  go_upto_region 2 with fail
  have hz := heap_alloc_new w2 (.cells #[.string sp, .int .u32 si] 25)
  have hal : Below w2.heap.size w2 (w2.alloc (.cells #[.string sp, .int .u32 si] 25)) := (Below.refl _ _).alloc (Nat.le_refl _) _
  obtain ⟨P, hP⟩ : ∃ q, q = w2.heap.size := ⟨_, rfl⟩
  rw [← hP] at hz ⊢
  generalize w2.alloc (.cells #[.string sp, .int .u32 si] 25) = w3 at *
  have HB4 := Lib.hid (HB3.out.trans (hal.mono HB3.out.size))
  have HZ4 := Lib.hid (stay HZ3.out hal)
  have HS1 := Lib.hid (HOWN.out.below hal)
  have HP := Lib.hid hz
  have HLO := Lib.hid (show ∀ b, (Value.slice a1 n1 c1).ownBlock = some b → b < P from fun b e => by
    have h1 := (HOWN.out.row.lt b e).2
    omega)
  clear hz hal hP HB3 HZ3
  go_wp2_with fail
  go_loopg [5, 22] n1 (fun g s i wr => ∃ k : Nat, g = n1 - k ∧ k ≤ n1 ∧ i = .int .i64 k ∧ s = .int .i64 (vsumO ll k) ∧ Below B w3 wr ∧ wr.heap[P]? = some (.cells #[.string sp, .int .u32 si] 25 (0, 0)) ∧ ClsOwn B wr (.slice a1 n1 c1) ((ll.take k).map (opC z.tag) ++ ll.drop k))
  case atStart => exact ⟨0, rfl, by omega, rfl, by simp [vsumO], Below.refl _ _, HP.out, by simpa using HS1.out⟩
  case round =>
    rename World => wo
    obtain ⟨k, hgk, hk, rfl, rfl, hb, hp, hown⟩ := hrel
    have HGK := Lib.hid hgk
    have HB := Lib.hid hb
    have HPK := Lib.hid hp
    have HOW := Lib.hid hown
    clear hgk hb hp hown
    by_cases hlt : k < n1
    · obtain ⟨x, hx⟩ : ∃ x, ll[k]? = some x := ⟨_, List.getElem?_eq_getElem (by rw [← HN1.out]; exact hlt)⟩
      obtain ⟨b, rfl, hbB, hbs⟩ := HOW.out.some_ (by omega)
      have hxx := mapTo_at (f := opC z.tag) hx
      obtain ⟨d0, d1, d2, d3, d4, d5, d6, d7⟩ := HOW.out.at hxx.1
      have hok := HOW.out.ok x (List.mem_of_getElem? hxx.1)
      have hfr : ∀ o, wo.frozen? ⟨b, o, none⟩ = false := fun o => HOW.out.free o
      have hzx : wo.heap[X]? = some (.cells #[.slice va n0 vc, .string z.pid, .int .u32 z.pidx, .int .i64 z.val, .int .u16 z.tag, .int .i64 z.fee, .bool z.odd] 28 (0, 0)) := (HB.out.block X hX2).trans HZ4.out
      have HZX := Lib.hid hzx
      have hbX : b ≠ X := by omega
      have hbP : b ≠ P := fun e => by have := HLO.out b rfl; omega
      obtain ⟨hh, hhh⟩ : ∃ q, q = x.lock.height % 1000001 := ⟨_, rfl⟩
      have hmod : ((x.lock.height : Int)).tmod 1000001 = (hh : Int) := by rw [Int.tmod_eq_emod_of_nonneg (by omega), hhh]; rfl
      have hv2r : 0 ≤ max 0 x.val % 100000 ∧ max 0 x.val % 100000 < 100000 := by omega
      have hv3r : 0 ≤ max 0 x.br % 3 ∧ max 0 x.br % 3 < 3 := by omega
      have hst := HOW.out.setVB hxx.1 (v2 := max 0 x.val % 100000) (v3 := max 0 x.br % 3) (by omega) (by omega)
      have g3 : (wo.setCell ⟨b, k * 8 + 2, none⟩ (.int .i64 (max 0 x.val % 100000))).cell? ⟨b, k * 8 + 3, none⟩ = some (.int .i64 x.br) := by
        rw [World.cell?_setCell_other _ _ _ _ (fun e => by injection e with _ e; omega)]; exact d3
      have HST := Lib.hid (drew_own hst)
      have HB5 := Lib.hid (((HB.out.setCell (p := ⟨b, k * 8 + 2, none⟩) hbB (.int .i64 (max 0 x.val % 100000))).setCell (p := ⟨b, k * 8 + 3, none⟩) hbB (.int .i64 (max 0 x.br % 3))).trans ((drew_bel _).mono (by simp; omega)))
      have HP5 := Lib.hid (show (((wo.setCell ⟨b, k * 8 + 2, none⟩ (.int .i64 (max 0 x.val % 100000))).setCell ⟨b, k * 8 + 3, none⟩ (.int .i64 (max 0 x.br % 3))).drew).heap[P]? = _ from (Below.heap_setCell _ _ _ _ (Ne.symm hbP)).trans ((Below.heap_setCell _ _ _ _ (Ne.symm hbP)).trans HPK.out))
      have HSX := Lib.hid (set_at hxx.1 ⟨x.id, x.idx, max 0 x.val % 100000, max 0 x.br % 3, x.lock, x.dead⟩ (opC z.tag x))
      have HXX := Lib.hid hxx
      have HX := Lib.hid hx
      clear hst hxx hx hok hzx
      go_upto_region 6 with fail
      go_region
      have HX6 := Lib.hid (show (((wo.setCell ⟨b, k * 8 + 2, none⟩ (.int .i64 (max 0 x.val % 100000))).setCell ⟨b, k * 8 + 3, none⟩ (.int .i64 (max 0 x.br % 3))).drew).heap[X]? = _ from (Below.heap_setCell _ _ _ _ (Ne.symm hbX)).trans ((Below.heap_setCell _ _ _ _ (Ne.symm hbX)).trans HZX.out))
      generalize (((wo.setCell ⟨b, k * 8 + 2, none⟩ (.int .i64 (max 0 x.val % 100000))).setCell ⟨b, k * 8 + 3, none⟩ (.int .i64 (max 0 x.br % 3))).drew) = w6 at *
      obtain ⟨e0, e1, e2, e3, e4, e5, e6, e7⟩ := HST.out.at HSX.out.1
      have hfr6 : ∀ o, w6.frozen? ⟨b, o, none⟩ = false := fun o => HST.out.free o
      have x4 : w6.cell? ⟨X, 4, none⟩ = some (.int .u16 z.tag) := cell_at HX6.out
      have g6 : (w6.setCell ⟨b, k * 8 + 4, none⟩ (.int .u16 z.tag)).cell? ⟨b, k * 8 + 6, none⟩ = some (.int .u32 x.lock.height) := by
        rw [World.cell?_setCell_other _ _ _ _ (fun e => by injection e with _ e; omega)]; exact e6
      have hst := HST.out.setTH HSX.out.1 (tg := z.tag) (hh := hh) htg (by omega)
      have hop : opC z.tag x = ⟨x.id, x.idx, max 0 x.val % 100000, max 0 x.br % 3, ⟨z.tag, x.lock.delay, hh⟩, x.dead⟩ := by unfold opC; rw [hhh]
      rw [← hop, HSX.out.2, HXX.out.2] at hst
      have HST7 := Lib.hid (show ClsOwn B (((w6.setCell ⟨b, k * 8 + 4, none⟩ (.int .u16 z.tag)).setCell ⟨b, k * 8 + 4 + 2, none⟩ (.int .u32 hh)).drew) (.slice (some ⟨b, 0, none⟩) n1 c1) ((ll.take (k + 1)).map (opC z.tag) ++ ll.drop (k + 1)) from drew_own hst)
      have HB7 := Lib.hid ((HB5.out.setCell (p := ⟨b, k * 8 + 4, none⟩) hbB (.int .u16 z.tag)).setCell (p := ⟨b, k * 8 + 4 + 2, none⟩) hbB (.int .u32 hh))
      have HP7 := Lib.hid (show (((w6.setCell ⟨b, k * 8 + 4, none⟩ (.int .u16 z.tag)).setCell ⟨b, k * 8 + 4 + 2, none⟩ (.int .u32 hh)).drew).heap[P]? = _ from (Below.heap_setCell _ _ _ _ (Ne.symm hbP)).trans ((Below.heap_setCell _ _ _ _ (Ne.symm hbP)).trans HP5.out))
      have HOP := Lib.hid hop
      have HRN := Lib.hid (And.intro hv2r hv3r)
      clear hst hop hhh d0 d1 d2 d3 d4 d5 d6 d7 g3 hfr hv2r hv3r
      go_upto_region 7 with fail
      go_region
      have HB7 := Lib.hid (show Below B w3 (((w6.setCell ⟨b, k * 8 + 4, none⟩ (.int .u16 z.tag)).setCell ⟨b, k * 8 + 4 + 2, none⟩ (.int .u32 hh)).drew) from HB7.out.trans ((drew_bel _).mono (by have h1 := HB7.out.size; have h2 := lt_of HP.out; have h3 := HLO.out b rfl; omega)))
      generalize (((w6.setCell ⟨b, k * 8 + 4, none⟩ (.int .u16 z.tag)).setCell ⟨b, k * 8 + 4 + 2, none⟩ (.int .u32 hh)).drew) = w7 at *
      have hat := (mapTo_at (f := opC z.tag) HX.out)
      have hk1 : ((ll.take (k + 1)).map (opC z.tag) ++ ll.drop (k + 1))[k]? = some (opC z.tag x) := by
        rw [← hat.2]; exact (set_at hat.1 (opC z.tag x) (opC z.tag x)).1
      have c2 : w7.cell? ⟨b, k * 8 + 2, none⟩ = some (.int .i64 (max 0 x.val % 100000)) := (HST7.out.at hk1).c2
      have HVS := Lib.hid (vsumO_step HX.out)
      have hvl := vsumO_le ll k (by rw [← HN1.out]; exact hk)
      generalize max 0 x.val % 100000 = v2 at *
      have hvr := HRN.out.1
      generalize vsumO ll k = s0 at *
      have hsw : IntKind.i64.wrap (s0 + v2) = s0 + v2 := by rw [IntKind.wrap_i64]; omega
      clear hat hk1 e0 e1 e2 e3 e4 e5 e6 e7 hfr6 x4 g6
      go_wp2_with fail
      go_roundg (n1 - (k + 1))
      case measure => have := HGK.out; omega
      case rel => exact ⟨k + 1, rfl, by omega, by go_num, by rw [HVS.out], HB7.out, HP7.out, HST7.out⟩
    · obtain rfl : n1 = k := by omega
      have hlall : ll.length = n1 := HN1.out.symm
      have HNL := Lib.hid (show ClsOwn B wo (.slice a1 n1 c1) (ll.map (opC z.tag)) from by
        have h := HOW.out
        rw [List.take_of_length_le (by omega), List.drop_eq_nil_of_le (by omega), List.append_nil] at h
        exact h)
      have hml : (ll.map (opC z.tag)).length = n1 := by rw [List.length_map, hlall]
      have HMEM := Lib.hid (fun i y (h : (ll.map (opC z.tag))[i]? = some y) => opC_mem h)
      have hsum := vsumO_all ll z.tag
      rw [hlall] at hsum
      have hvl := vsumO_le ll n1 (by omega)
      generalize vsumO ll n1 = s0 at *
      obtain ⟨lx, hlx⟩ : ∃ lx, lx = ll.map (opC z.tag) := ⟨_, rfl⟩
      rw [← hlx] at HNL hml HMEM hsum
      have HML := Lib.hid hml
      have HSUM := Lib.hid hsum
      have hz : wo.heap[X]? = some (.cells #[.slice va n0 vc, .string z.pid, .int .u32 z.pidx, .int .i64 z.val, .int .u16 z.tag, .int .i64 z.fee, .bool z.odd] 28 (0, 0)) := (HB.out.block X hX2).trans HZ4.out
      have HZO := Lib.hid hz
      have z3 : wo.cell? ⟨X, 3, none⟩ = some (.int .i64 z.val) := cell_at hz
      have z4 : wo.cell? ⟨X, 4, none⟩ = some (.int .u16 z.tag) := cell_at hz
      have z5 : wo.cell? ⟨X, 5, none⟩ = some (.int .i64 z.fee) := cell_at hz
      have q0 : wo.cell? ⟨P, 0, none⟩ = some (.string sp) := cell_at HPK.out
      have q1 : wo.cell? ⟨P, 1, none⟩ = some (.int .u32 si) := cell_at HPK.out
      have HBO := Lib.hid (HB4.out.trans (HB.out.mono HBW.out))
      clear hlx hml hz HOW HB4 HS1 HLO hsum
      go_upto_region 10 with fail
      go_region
      have hbd := drew_bel wo
      have HNL := Lib.hid (drew_own HNL.out)
      have HBO := Lib.hid (HBO.out.trans (hbd.mono HBO.out.size))
      have HZO := Lib.hid (stay HZO.out hbd)
      have HPK := Lib.hid (stay HPK.out hbd)
      generalize wo.drew = wo at *
      have z4 : wo.cell? ⟨X, 4, none⟩ = some (.int .u16 z.tag) := cell_at HZO.out
      have q0 : wo.cell? ⟨P, 0, none⟩ = some (.string sp) := cell_at HPK.out
      have q1 : wo.cell? ⟨P, 1, none⟩ = some (.int .u32 si) := cell_at HPK.out
      have hvr : 0 ≤ max 0 z.val % 1000000 ∧ max 0 z.val % 1000000 < 1000000 := by omega
      have hfr : 0 ≤ max 0 z.fee % 1000000 ∧ max 0 z.fee % 1000000 < 1000000 := by omega
      generalize max 0 z.val % 1000000 = vv at *
      generalize max 0 z.fee % 1000000 = fe at *
      have HQ := Lib.hid (claimB_any (.slice a1 n1 c1) lx sp si vv ⟨#[]⟩ 0 z.tag fe wo HNL.out.sl (by rw [HML.out]; omega) HPL.out hpi (wf_of (by omega)) htg)
      have HSL := Lib.hid HNL.out.sl
      unfold enV at HQ
      have hcl := claims_ok (l := lx) (cid := sp) (ci := si) (tag := z.tag) (cv := vv) (fee := fe)
      generalize claimsOf lx sp si vv z.tag fe = res at *
      obtain ⟨t, er⟩ := res
      have HCL := Lib.hid hcl
      clear HNL hcl hlall hbd
      go_wp2_with fail
      refine HQ.out.mono ?_
      rintro e w5 ⟨v1, rfl, htx, hb⟩
      have HB5 := Lib.hid (HBO.out.trans (hb.mono HBO.out.size))
      have HSL := Lib.hid (HSL.out.below hb)
      have HTX := Lib.hid htx.at
      have HZO := Lib.hid (stay HZO.out hb)
      obtain ⟨a1', b1, a2', b2, rfl⟩ := htx.at.shapeK
      clear hb htx HQ HBO q0 q1 z3 z4 z5 HPK
      dsimp only at HCL ⊢
      by_cases her : er = 0
      · obtain ⟨⟨hl1, hl2⟩, v', hv', hs0, heq, hck⟩ := HCL.out her
        obtain ⟨rfl, rfl⟩ := Prod.mk.inj heq
        have hvx : v' = s0 + vv - fe := by
          rw [hv', sumA_val _ _ hs0]
          unfold valsOf
          rw [List.sum_cons, HSUM.out]
          omega
        subst hvx
        obtain ⟨sv, hw1, hw2⟩ : ∃ sv, IntKind.i64.wrap (s0 + vv) = sv ∧ IntKind.i64.wrap (sv - fe) = s0 + vv - fe := ⟨s0 + vv, by rw [IntKind.wrap_i64]; omega, by rw [IntKind.wrap_i64]; omega⟩
        generalize s0 + vv - fe = sw at *
        have hil : (claimTx lx sp si z.tag sw).ins.length = n1 + 1 := by rw [claim_ins_len, HML.out]
        have hol : (claimTx lx sp si z.tag sw).outs = [⟨sw, scrT z.tag⟩] := rfl
        have HCA := Lib.hid (fun i a (h : lx[i]? = some a) => claim_at sp si z.tag sw h)
        have HCO := Lib.hid (fun i a s (h : lx[i]? = some a) (hb1 : 0 ≤ a.br ∧ a.br ≤ 2) (hd : a.lock.delay < 65536) (ha : a.lock.tag = z.tag) (hs : lockGet s = some [a.lock, a.lock, a.lock]) => claim_opens sp si z.tag sw h htg hd hb1 hs ha)
        have hco := coin_opens lx sp si z.tag sw htg (oneK htg)
        rw [HML.out] at hco
        have HCC := Lib.hid hco
        obtain ⟨t, ht⟩ : ∃ t, t = claimTx lx sp si z.tag sw := ⟨_, rfl⟩
        rw [← ht] at HTX hil hol HCA HCO HCC ⊢
        rw [hil, hol] at HTX ⊢
        clear ht heq hck hl1 hl2 hv' hs0 her hco HCL HSUM
        go_upto_region 12 with fail
        have hz := heap_alloc_new w5 (.cells #[.int .u32 t.ver, .slice a1' (n1 + 1) b1, .slice a2' 1 b2, .int .u32 t.lock] 44)
        have hal : Below w5.heap.size w5 (w5.alloc (.cells #[.int .u32 t.ver, .slice a1' (n1 + 1) b1, .slice a2' 1 b2, .int .u32 t.lock] 44)) := (Below.refl _ _).alloc (Nat.le_refl _) _
        obtain ⟨T, hT⟩ : ∃ q, q = w5.heap.size := ⟨_, rfl⟩
        rw [← hT] at hz ⊢
        generalize w5.alloc (.cells #[.int .u32 t.ver, .slice a1' (n1 + 1) b1, .slice a2' 1 b2, .int .u32 t.lock] 44) = w6 at *
        have HB6 := Lib.hid (HB5.out.trans (hal.mono HB5.out.size))
        have HSL := Lib.hid (HSL.out.below hal)
        have HTX := Lib.hid (HTX.out.below hal)
        have HZO := Lib.hid (stay HZO.out hal)
        have HTB := Lib.hid hz
        obtain ⟨ua, ub, huu, hia, hoa, -, -⟩ := HTX.out
        obtain ⟨rfl, rfl⟩ : Value.slice a1' (n1 + 1) b1 = ua ∧ Value.slice a2' 1 b2 = ub := by simpa using huu
        rw [hol] at hoa
        obtain ⟨bo, oo, o1, rfl, ho1, -, o0, o2⟩ := hoa.outp (i := 0) (by decide)
        obtain rfl : (⟨sw, scrT z.tag⟩ : POut) = o1 := by simpa using ho1
        have HIA := Lib.hid hia
        have t0 : w6.cell? ⟨T, 0, none⟩ = some (.int .u32 t.ver) := cell_at hz
        have t1 : w6.cell? ⟨T, 1, none⟩ = some (.slice a1' (n1 + 1) b1) := cell_at hz
        have t2 : w6.cell? ⟨T, 2, none⟩ = some (.slice (some ⟨bo, oo, none⟩) 1 b2) := cell_at hz
        have t3 : w6.cell? ⟨T, 3, none⟩ = some (.int .u32 t.lock) := cell_at hz
        have z4 : w6.cell? ⟨X, 4, none⟩ = some (.int .u16 z.tag) := cell_at HZO.out
        clear hz hal hT hia hoa huu ho1 HB5 hil hol
        dsimp only at o0 o2 HTX HIA
        rw [Nat.zero_mul, Nat.add_zero] at o0 o2
        go_upto_region 14 with fail
        obtain ⟨C, hC⟩ : ∃ C : World → Prop, C = fun w' => Below w6.heap.size w6 w' := ⟨_, rfl⟩
        have kt0 := kin_cell hC t0
        have kt1 := kin_cell hC t1
        have kt2 := kin_cell hC t2
        have kt3 := kin_cell hC t3
        have kz4 := kin_cell hC z4
        have ko0 := kin_cell hC o0
        have ko2 := kin_cell hC o2
        have QC := Lib.hid (kin_call hC fun y h => rscript_any z.tag htg y)
        have HC := Lib.hid hC
        clear hC
        refine wp_region_kin C (by kernel_rfl) (by kernel_rfl) (by rw [HC.out]; exact ⟨rfl, rfl, rfl, Nat.le_refl _, fun _ _ => rfl⟩) ?_
        intro hne
        repeat (first | (go_big_quiet_step ((rename_i y; go_at_call 26; exact Calls.kin (QC.out y) (fun w' h => h)))) | (quiet_step ((rename_i y; go_at_call 26; exact Calls.kin (QC.out y) (fun w' h => h)))))
        refine wpQuiet_nil ?_
        intro _ hw'
        obtain ⟨kx, hw''⟩ := hw'
        subst hw''
        obtain ⟨w7, hxc⟩ := kx
        rw [HC.out] at hxc
        clear HC hne kt0 kt1 kt2 kt3 kz4 ko0 ko2
        have HB7 := Lib.hid (HB6.out.trans (hxc.mono HB6.out.size))
        have HSL := Lib.hid (HSL.out.below hxc)
        have HTX := Lib.hid (HTX.out.below hxc)
        have HZO := Lib.hid (stay HZO.out hxc)
        have HTB := Lib.hid (stay HTB.out hxc)
        have HIA := Lib.hid (HIA.out.below hxc)
        clear hxc t0 t1 t2 t3 z4 o0 o2 HB6
        have hX7 : X < w7.heap.size := lt_of HZO.out
        have hT7 : T < w7.heap.size := lt_of HTB.out
        go_wp2_with fail
        go_loopg [137] n1 (fun g i wr => ∃ k : Nat, g = n1 - k ∧ k ≤ n1 ∧ i = .int .i64 k ∧ Below w7.heap.size w7 wr)
        case atStart => exact ⟨0, rfl, by omega, rfl, Below.refl _ _⟩
        case round =>
          rename World => wa
          obtain ⟨k, hgk, hk, rfl, hba⟩ := hrel
          have HGK := Lib.hid hgk
          have HBA := Lib.hid hba
          clear hgk hba
          by_cases hlk : k < n1
          · obtain ⟨b, o, x, rfl, hx, hok, hcl⟩ := (HSL.out.below HBA.out).cl hlk
            obtain ⟨d0, d1, d2, d3, d4, d5, d6, d7⟩ := hcl
            obtain ⟨hm1, hm2, hm3, hm4⟩ := HMEM.out k x hx
            obtain ⟨bi, oi, y, wv, rfl, hy, -, -, -, -, y0, y1, -, -⟩ := (HIA.out.below HBA.out).inp (i := k) (by omega)
            have hya := HCA.out k x hx
            rw [hya] at hy
            obtain rfl := Option.some.inj hy
            dsimp only at y0 y1
            have HO := Lib.hid (fun s (h : lockGet s = some [x.lock, x.lock, x.lock]) => HCO.out k x s hx ⟨hm3, hm4⟩ hok.lock.delay hm1 h)
            have HPUT := Lib.hid (fun v => put3_any x.lock hok.lock hm2 v)
            clear hx hok hy hya hm1 hm2 hm3 hm4
            go_upto_region 19 with fail
            have hz := heap_alloc_new wa (.cells #[.string x.id, .int .u32 x.idx, .int .i64 x.val, .int .i64 x.br, .int .u16 x.lock.tag, .int .u16 x.lock.delay, .int .u32 x.lock.height, .int .i64 x.dead] 34)
            have hal : Below wa.heap.size wa (wa.alloc (.cells #[.string x.id, .int .u32 x.idx, .int .i64 x.val, .int .i64 x.br, .int .u16 x.lock.tag, .int .u16 x.lock.delay, .int .u32 x.lock.height, .int .i64 x.dead] 34)) := (Below.refl _ _).alloc (Nat.le_refl _) _
            obtain ⟨C, hC⟩ : ∃ q, q = wa.heap.size := ⟨_, rfl⟩
            rw [← hC] at hz ⊢
            generalize wa.alloc (.cells #[.string x.id, .int .u32 x.idx, .int .i64 x.val, .int .i64 x.br, .int .u16 x.lock.tag, .int .u16 x.lock.delay, .int .u32 x.lock.height, .int .i64 x.dead] 34) = wc at *
            have HBC := Lib.hid (HBA.out.trans (hal.mono HBA.out.size))
            have hca : wa.heap.size ≤ wc.heap.size := hal.size
            have hcs : C < wc.heap.size := lt_of hz
            have HCB := Lib.hid hz
            have e0 : wc.cell? ⟨C, 0, none⟩ = some (.string x.id) := cell_at hz
            have e1 : wc.cell? ⟨C, 1, none⟩ = some (.int .u32 x.idx) := cell_at hz
            have e4 : wc.cell? ⟨C, 4, none⟩ = some (.int .u16 x.lock.tag) := cell_at hz
            have e5 : wc.cell? ⟨C, 5, none⟩ = some (.int .u16 x.lock.delay) := cell_at hz
            have e6 : wc.cell? ⟨C, 6, none⟩ = some (.int .u32 x.lock.height) := cell_at hz
            replace y0 := below_cells hal _ _ y0
            replace y1 := below_cells hal _ _ y1
            clear hz hal hC d0 d1 d2 d3 d4 d5 d6 d7
            go_wp2_with fail
            refine (HPUT.out wc).mono ?_
            rintro e wd ⟨s, rfl, hsz, hget, hb⟩
            have hop := HO.out s hget
            have HOPN := Lib.hid (fun v y (h : TxAt y v t) => open_any s hsz v t k y h)
            unfold OpenIs at HOPN
            rw [hop] at HOPN
            replace e0 := below_cells hb _ _ e0
            replace e1 := below_cells hb _ _ e1
            replace y0 := below_cells hb _ _ y0
            replace y1 := below_cells hb _ _ y1
            have HBD := Lib.hid (HBC.out.trans (hb.mono HBC.out.size))
            have HTXD := Lib.hid (HTX.out.below HBD.out)
            have hz := stay HTB.out HBD.out
            have t0 : wd.cell? ⟨T, 0, none⟩ = some (.int .u32 t.ver) := cell_at hz
            have t1 : wd.cell? ⟨T, 1, none⟩ = some (.slice (some ⟨bi, oi, none⟩) (n1 + 1) b1) := cell_at hz
            have t2 : wd.cell? ⟨T, 2, none⟩ = some (.slice (some ⟨bo, oo, none⟩) 1 b2) := cell_at hz
            have t3 : wd.cell? ⟨T, 3, none⟩ = some (.int .u32 t.lock) := cell_at hz
            have heq : ∀ w : World, (Op.equalIn 10000 25 (.agg #[.string x.id, .int .u32 x.idx]) (.agg #[.string x.id, .int .u32 x.idx])).run Tryz.prog w = .ok true w := fun w => by have := eqIn_pt (x.id, x.idx) (x.id, x.idx) w; rw [decide_eq_true rfl] at this; exact this
            have hgp := guardPt
            clear hz hb hop hget HPUT HO e4 e5 e6
            go_upto_region 20 with fail
            obtain ⟨C, hC⟩ : ∃ C : World → Prop, C = fun w' => Below wd.heap.size wd w' := ⟨_, rfl⟩
            have kt0 := kin_cell hC t0
            have kt1 := kin_cell hC t1
            have kt2 := kin_cell hC t2
            have kt3 := kin_cell hC t3
            have ke0 := kin_cell hC e0
            have ke1 := kin_cell hC e1
            have ky0 := kin_cell hC y0
            have ky1 := kin_cell hC y1
            have QO := Lib.hid (kin_call hC fun y h => HOPN.out _ y (HTXD.out.below h))
            have HC := Lib.hid hC
            clear hC
            refine wp_region_kin C (by kernel_rfl) (by kernel_rfl) (by rw [HC.out]; exact ⟨rfl, rfl, rfl, Nat.le_refl _, fun _ _ => rfl⟩) ?_
            intro hne
            repeat (first | (go_big_quiet_step ((rename_i y; go_at_call 28; exact Calls.kin (QO.out y) (fun w' h => h)))) | (quiet_step ((rename_i y; go_at_call 28; exact Calls.kin (QO.out y) (fun w' h => h)))))
            refine wpQuiet_nil ?_
            intro _ hw'
            obtain ⟨kx, hw''⟩ := hw'
            subst hw''
            obtain ⟨we, hxc⟩ := kx
            rw [HC.out] at hxc
            clear HC hne kt0 kt1 kt2 kt3 ke0 ke1 ky0 ky1
            have HBE := Lib.hid (HBD.out.trans (hxc.mono HBD.out.size))
            clear hxc
            go_wp2_with fail
            go_roundg (n1 - (k + 1))
            case measure => have := HGK.out; omega
            case rel => exact ⟨k + 1, rfl, by omega, by go_num, HBE.out⟩
          · obtain rfl : n1 = k := by omega
            have HBW := Lib.hid (HB7.out.trans (HBA.out.mono HB7.out.size))
            have hz := stay HTB.out HBA.out
            have t0 : wa.cell? ⟨T, 0, none⟩ = some (.int .u32 t.ver) := cell_at hz
            have t1 : wa.cell? ⟨T, 1, none⟩ = some (.slice a1' (n1 + 1) b1) := cell_at hz
            have t2 : wa.cell? ⟨T, 2, none⟩ = some (.slice (some ⟨bo, oo, none⟩) 1 b2) := cell_at hz
            have t3 : wa.cell? ⟨T, 3, none⟩ = some (.int .u32 t.lock) := cell_at hz
            have z4 : wa.cell? ⟨X, 4, none⟩ = some (.int .u16 z.tag) := cell_at (stay HZO.out HBA.out)
            have HTXD := Lib.hid (HTX.out.below HBA.out)
            have HOPN := Lib.hid (fun v y (h : TxAt y v t) => open_any (scrT z.tag) (by rw [scrT_size]; decide) v t n1 y h)
            unfold OpenIs at HOPN
            rw [HCC.out] at HOPN
            clear hz
            go_upto_region 23 with fail
            obtain ⟨C, hC⟩ : ∃ C : World → Prop, C = fun w' => Below wa.heap.size wa w' := ⟨_, rfl⟩
            have kt0 := kin_cell hC t0
            have kt1 := kin_cell hC t1
            have kt2 := kin_cell hC t2
            have kt3 := kin_cell hC t3
            have kz4 := kin_cell hC z4
            have QW := Lib.hid (kin_call hC fun y h => wakes25_any y)
            have QC := Lib.hid (kin_call hC fun y h => rscript_any z.tag htg y)
            have QO := Lib.hid (kin_call hC fun y h => HOPN.out _ y (HTXD.out.below h))
            have HC := Lib.hid hC
            clear hC
            refine wp_region_kin C (by kernel_rfl) (by kernel_rfl) (by rw [HC.out]; exact ⟨rfl, rfl, rfl, Nat.le_refl _, fun _ _ => rfl⟩) ?_
            intro hne
            repeat (first | (go_big_quiet_step (first | (rename_i y; go_at_call 13; exact Calls.kin (QW.out y) (fun w' h => h)) | (rename_i y; go_at_call 26; exact Calls.kin (QC.out y) (fun w' h => h)) | (rename_i y; go_at_call 28; exact Calls.kin (QO.out y) (fun w' h => h)))) | (quiet_step (first | (rename_i y; go_at_call 13; exact Calls.kin (QW.out y) (fun w' h => h)) | (rename_i y; go_at_call 26; exact Calls.kin (QC.out y) (fun w' h => h)) | (rename_i y; go_at_call 28; exact Calls.kin (QO.out y) (fun w' h => h)))))
            refine wpQuiet_nil ?_
            intro _ hw'
            obtain ⟨kx, hw''⟩ := hw'
            subst hw''
            obtain ⟨we, hxc⟩ := kx
            rw [HC.out] at hxc
            clear HC hne kt0 kt1 kt2 kt3 kz4
            have HBE := Lib.hid (HBW.out.trans (hxc.mono HBW.out.size))
            clear hxc
            go_wp2_with fail
            go_ret
            exact ⟨rfl, HBE.out⟩
      · have hne : (er == 0) = false := by rw [beq_eq_false_iff_ne]; exact her
        generalize t.ins.length = m1 at *
        generalize t.outs.length = m2 at *
        clear her
        go_upto_region 12 with fail
        have hal := Below.alloc (Below.refl w5.heap.size w5) (Nat.le_refl _) (.cells #[.int .u32 t.ver, .slice a1' m1 b1, .slice a2' m2 b2, .int .u32 t.lock] 44)
        have HB6 := Lib.hid (HB5.out.trans (hal.mono HB5.out.size))
        clear hal
        go_wp2_with fail
        refine (wakes25_any _).mono ?_
        rintro e w9 ⟨rfl, hb⟩
        have HB9 := Lib.hid (HB6.out.trans (hb.mono HB6.out.size))
        clear hb
        go_wp2_with fail
        go_ret
        exact ⟨rfl, HB9.out⟩
theorem claimOpens_at (v : Value) (q : Value × List PCl × PRw) (w : World) (h : RawAt w v q) : Calls Tryz.prog 8 #[v] w (BIs true w) := by
  obtain ⟨rfl, h1, h2⟩ := h
  exact claimOpens_walk q.1 q.2.1 q.2.2 w h1 h2
end Go.Proofs.YtmakghcoehkphaaGreat
