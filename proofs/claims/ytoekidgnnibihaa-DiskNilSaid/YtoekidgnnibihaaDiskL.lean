/-
  DiskLasts returns true for every input. Conditions: none.
-/
import Derived.Test.YtoekidgnnibihaaDiskP
import Derived.Test.YtoekidgnnibihaaRep
import Derived.Test.YtoekidgnnibihaaStr
import Derived.Deep.LoopGhost
namespace Go.Proofs.Ytoekidgnnibihaa
open Go.RowKit
set_option linter.unusedVariables false

theorem One.call {P : Program} {B : Nat} {w wk : World} {a : Nat} {d d' : Dk} {f : FuncId} {args : Array Value} {v : Value} (h : One B w wk a d)
    (c : ∀ F, DkAt wk F a d → Calls P f args wk (DkPost wk F a v d')) : Calls P f args wk fun e w' => e = .returned v ∧ One B w w' a d' := by
  obtain ⟨F, h1, h2, h4, h7⟩ := h
  exact (c F h2).mono fun e w' ⟨he, F', hd, ho, hf⟩ => ⟨he, F', h1.trans (hf.below h7 h4), hd, ho.from h4 h7, Nat.le_trans h7 hf.size⟩
theorem One.wakes {B : Nat} {w wk w' : World} {a : Nat} {d : Dk} (h : One B w wk a d) (hb : Below wk.heap.size wk w') : One B w w' a d := by
  obtain ⟨F, h1, h2, h4, h7⟩ := h
  exact ⟨F, h1.trans (hb.mono h7), h2.kept fun k hk => hb.block k (h2.lt k hk), h4, Nat.le_trans h7 hb.size⟩
theorem One.below {B : Nat} {w wk : World} {a : Nat} {d : Dk} (h : One B w wk a d) : Below B w wk := by obtain ⟨F, h1, _⟩ := h; exact h1
theorem One.cells {B : Nat} {w wk : World} {a : Nat} {d : Dk} (h : One B w wk a d) : ∃ s c, wk.cell? ⟨a, 0, none⟩ = some (.slice s d.bytes.length c) ∧ wk.cell? ⟨a, 1, none⟩ = some (.bool d.down) ∧ wk.cell? ⟨a, 2, none⟩ = some (.int .i64 d.left) := by
  obtain ⟨F, h1, ⟨s, c, hF, hb, _⟩, _⟩ := h
  exact ⟨s, c, cell_at hb, cell_at hb, cell_at hb⟩
theorem One.start {w w0 : World} (hb : Below w.heap.size w w0) : One w.heap.size w (w0.alloc (.cells #[.slice none 0 0, .bool false, .int .i64 (-1)] 52)) w0.heap.size Dk.new := by
  refine ⟨[w0.heap.size], hb.alloc hb.size _, new_at w0, ?_, Nat.le_trans hb.size (by simp)⟩
  intro k hk; rw [List.mem_singleton] at hk; rw [hk]; exact hb.size
theorem One.read {B : Nat} {w wk : World} {a : Nat} {d : Dk} (h : One B w wk a d) (hdn : d.down = false) :
    Calls Try.prog 9 #[.pointer (some ⟨a, 0, none⟩)] wk fun e w' => e = .returned (.tuple #[.string ⟨d.bytes.toArray⟩, .int .i64 0]) ∧ wk = w' := by
  obtain ⟨F, _, hd, _⟩ := h
  exact read_up _ F _ _ hd hdn

theorem SlAt.take {α : Type} {R : Rp α} {w : World} {a : Option Addr} {n c m : Nat} {xs : List α} (h : SlAt R w (.slice a n c) xs) (hm : m ≤ xs.length) : SlAt R w (.slice a m c) (xs.take m) := by
  obtain ⟨a', c', h1, h2, h3, h4⟩ := h
  obtain ⟨rfl, rfl, rfl⟩ : a = a' ∧ n = xs.length ∧ c = c' := by simpa using h1
  refine ⟨a, c, by rw [List.length_take]; congr 1; omega, by rw [List.length_take]; omega, h3, fun i x hi => ?_⟩
  rw [List.getElem?_take] at hi
  split at hi
  · exact h4 i x hi
  · cases hi
theorem SlAt.str {w : World} {a : Option Addr} {n c i : Nat} {ss : List ByteArray} (h : SlAt rpStr w (.slice a n c) ss) (hi : i < n) : ∃ b o s, a = some ⟨b, o, none⟩ ∧ ss[i]? = some s ∧ s.size ≤ maxLen ∧ w.cell? ⟨b, o + i, none⟩ = some (.string s) := by
  obtain ⟨a', c', h1, h2, h3, h4⟩ := h
  obtain ⟨rfl, rfl, rfl⟩ : a = a' ∧ n = ss.length ∧ c = c' := by simpa using h1
  obtain ⟨b, o, cs, h5, h6, h7, h8, h9⟩ := h4 i ss[i] (List.getElem?_eq_getElem hi)
  subst h8
  refine ⟨b, o, _, h5, List.getElem?_eq_getElem hi, h9, ?_⟩
  simpa [rpStr] using h7 0 _ rfl

/-- What holds of the disk, of what was written with OK, and of the torn write, after k writes. -/
def LInv (cut k : Nat) (d : Dk) (want torn : ByteArray) : Prop :=
  want.size ≤ 100 * k ∧ torn.size ≤ 100 ∧
  ((d.down = false ∧ d.bytes = want.data.toList ∧ torn = ByteArray.empty ∧ d.left = (cut : Int) - want.size ∧ want.size ≤ cut) ∨
   (d.down = true ∧ ∃ p, p < torn.size ∧ d.bytes = want.data.toList ++ torn.data.toList.take p ∧ cut = want.size + p))

theorem linv_up {cut k : Nat} {d : Dk} {want torn s : ByteArray} (h : LInv cut k d want torn) (hk : k < 20) (hs : s.size ≤ 100) (hd : d.down = false) (hl : s.size ≤ cut - want.size) :
    (d.wr s.data.toList).2 = 0 ∧ LInv cut (k + 1) (d.wr s.data.toList).1 (want ++ s) torn := by
  obtain ⟨h1, h2, h3⟩ := h
  rcases h3 with ⟨_, h4, h5, h6, h7⟩ | ⟨h4, _⟩
  · have hz : want.data.toList.length = want.size := by simp
    have hz2 : s.data.toList.length = s.size := by simp
    have e : d.wr s.data.toList = (⟨want.data.toList ++ s.data.toList, false, (cut : Int) - want.size - s.size⟩, 0) := by
      unfold Dk.wr
      rw [hd, h4, h6, hz, hz2, if_neg (by simp), if_neg (by omega), if_neg (by omega), if_neg (by omega)]
    rw [e]
    refine ⟨rfl, by simp; omega, h2, .inl ⟨rfl, by simp, h5, by simp; omega, by simp; omega⟩⟩
  · rw [hd] at h4; cases h4
theorem linv_cut {cut k : Nat} {d : Dk} {want torn s : ByteArray} (h : LInv cut k d want torn) (hk : k < 20) (hs : s.size ≤ 100) (hd : d.down = false) (hl : ¬ s.size ≤ cut - want.size) :
    (d.wr s.data.toList).2 = 23 ∧ LInv cut (k + 1) (d.wr s.data.toList).1 want s := by
  obtain ⟨h1, h2, h3⟩ := h
  rcases h3 with ⟨_, h4, h5, h6, h7⟩ | ⟨h4, _⟩
  · have hz : want.data.toList.length = want.size := by simp
    have hz2 : s.data.toList.length = s.size := by simp
    have e : d.wr s.data.toList = (⟨want.data.toList ++ s.data.toList.take (cut - want.size), true, -1⟩, 23) := by
      unfold Dk.wr
      rw [hd, h4, h6, hz, hz2, if_neg (by simp), if_neg (by omega), if_pos (by omega)]
      congr 4
      omega
    rw [e]
    exact ⟨rfl, by omega, hs, .inr ⟨rfl, cut - want.size, by omega, rfl, by omega⟩⟩
  · rw [hd] at h4; cases h4
theorem linv_down {cut k : Nat} {d : Dk} {want torn s : ByteArray} (h : LInv cut k d want torn) (hd : d.down = true) :
    d.wr s.data.toList = (d, 23) ∧ LInv cut (k + 1) d want torn := by
  refine ⟨by unfold Dk.wr; rw [hd]; rfl, ?_⟩
  obtain ⟨h1, h2, h3⟩ := h
  exact ⟨by omega, h2, h3⟩

/-- What the law asks in the end. -/
theorem linv_end {cut k : Nat} {d : Dk} {want torn : ByteArray} (h : LInv cut k d want torn) :
    want.size ≤ (ByteArray.mk d.bytes.toArray).size ∧ preB ⟨d.bytes.toArray⟩ want = true ∧ preB torn ((ByteArray.mk d.bytes.toArray).extract want.size (ByteArray.mk d.bytes.toArray).size) = true ∧
    ((d.down = false ∧ torn.size = 0) ∨ (d.down = true ∧ 0 < torn.size ∧ (ByteArray.mk d.bytes.toArray).size = cut ∧ (ByteArray.mk d.bytes.toArray).size < want.size + torn.size)) := by
  obtain ⟨h1, h2, h3⟩ := h
  have hz : want.data.toList.length = want.size := by simp
  have hz2 : torn.data.toList.length = torn.size := by simp
  have hsz : (ByteArray.mk d.bytes.toArray).size = d.bytes.length := by simp [ByteArray.size]
  rw [hsz]
  unfold preB
  rcases h3 with ⟨h4, h5, h6, _, _⟩ | ⟨h4, p, h5, h6, h7⟩
  · refine ⟨by rw [h5, hz]; omega, by rw [List.isPrefixOf_iff_prefix, h5]; exact ⟨[], by simp⟩, ?_, .inl ⟨h4, by rw [h6]; rfl⟩⟩
    rw [h5, hz, List.isPrefixOf_iff_prefix]
    simp
  · have hbl : d.bytes.length = want.size + p := by rw [h6, List.length_append, hz, List.length_take]; omega
    refine ⟨by omega, ?_, ?_, .inr ⟨h4, by omega, by omega, by omega⟩⟩
    · rw [h6, List.isPrefixOf_iff_prefix]; exact List.prefix_append _ _
    · rw [List.isPrefixOf_iff_prefix]
      have e : ((ByteArray.mk d.bytes.toArray).extract want.size d.bytes.length).data.toList = torn.data.toList.take p := by
        simp only [ByteArray.data_extract, Array.toList_extract, List.extract_eq_take_drop]
        rw [h6, List.length_append, List.length_take, ← hz, List.drop_left]
        rw [List.take_take]; congr 1; omega
      rw [e]
      exact List.take_prefix _ _

def cutS (s : ByteArray) (n : Nat) : ByteArray := s.extract 0 (min (s.size : Int) n).toNat
theorem cutS_size (s : ByteArray) (n : Nat) : (cutS s n).size ≤ n := cut100 s n

set_option maxHeartbeats 1000000 in
theorem lasts_any (v : Value) (ss : List ByteArray) (cut : Nat) (hc : cut ≤ 65535) (w : World) (hv : SlAt rpStr w v ss) :
    Calls Try.prog 4 #[v, .int .u16 cut] w fun e w' => e = .returned (.bool true) ∧ Below w.heap.size w w' := by
  obtain ⟨a, c, rfl, hl1, hl2⟩ := hv.shape
  have hv2 := hv.take (m := min ss.length 20) (by omega)
  generalize hss : ss.take (min ss.length 20) = l at hv2
  have hll : l.length = min ss.length 20 := by rw [← hss, List.length_take]; omega
  unfold maxLen at hl2
  have HLL := Lib.hid hll
  have hl20 : min ss.length 20 ≤ 20 := by omega
  clear hss hll hv
  generalize ss.length = n at *
  go_enter Try.func4, Try.ntmps4
  go_wp2_with fail
  refine (new_any _).mono ?_
  rintro e w1 ⟨rfl, hw1⟩
  have h1 := One.start (Below.refl w.heap.size w)
  rw [← hw1] at h1
  clear hw1
  obtain ⟨A, hA⟩ : ∃ A, A = w.heap.size := ⟨_, rfl⟩
  rw [← hA] at h1 ⊢
  have HA := Lib.hid hA
  clear hA
  go_wp2_with fail
  refine (h1.call (fun F hF => cut_any _ F _ _ _ hF (by omega))).mono ?_
  rintro e w2 ⟨rfl, h2⟩
  have hi0 : LInv cut 0 (Dk.new.cut cut) ByteArray.empty ByteArray.empty := ⟨by simp, by simp, .inl ⟨rfl, by simp [Dk.cut, Dk.new], rfl, by simp [Dk.cut], by simp⟩⟩
  go_wp2_with fail
  rw [show max (min (n : Int) 20) 0 = ((min n 20 : Nat) : Int) by omega, show (min (n : Int) 20).toNat = min n 20 by omega]
  have hmn : min n 20 ≤ n := by omega
  generalize min n 20 = m at *
  go_loopw [6, 7, 26] (fun want torn i wr => ∃ (k : Nat) (d : Dk) (wa to : ByteArray), k ≤ m ∧ i = .int .i64 k ∧ want = .string wa ∧ torn = .string to ∧ LInv cut k d wa to ∧ One A w wr A d) (fun _ _ i _ => m - (intOf i).toNat)
  case atStart => exact ⟨0, _, _, _, Nat.zero_le _, rfl, rfl, rfl, hi0, h2⟩
  case round =>
    obtain ⟨k, d, wa, to, hk, rfl, rfl, rfl, hinv, hone⟩ := hrel
    obtain ⟨s0, c0, hc0, hc1, hc2⟩ := hone.cells
    have hbl : Below w.heap.size w wr := by rw [← HA.out]; exact hone.below
    have hzw : wa.size ≤ 2000 := by have := hinv.1; omega
    by_cases hlt : k < m
    · obtain ⟨b, o, s, rfl, hsk, hsz, hcell⟩ := (hv2.mono (below_cells hbl)).str hlt
      unfold maxLen at hsz
      have hcs := cutS_size s 20
      have hcs := cutS_size s 100
      unfold cutS at hcs
      clear hsk hc0 hc2 h1 h2 hi0
      have HC := Lib.hid hcs
      clear hcs
      have hk20 : k < 20 := by omega
      go_wp2_with fail
      generalize s.extract 0 (min (s.size : Int) 100).toNat = s1 at *
      have hs1 : s1.size ≤ 100 := HC.out
      cases hdn : d.down
      · rw [hdn] at hc1
        refine (down_any _ _ _ hc1).mono ?_
        rintro e w' ⟨rfl, rfl⟩
        by_cases hfit : s1.size ≤ cut - wa.size
        · obtain ⟨e1, hinv1⟩ := linv_up hinv hk20 hs1 hdn hfit
          have E1 := Lib.hid e1
          clear hdn hc1 e1 hinv
          go_wp2_with fail
          refine (hone.call (fun F hF => write_any _ F _ _ s1 hF (by omega))).mono ?_
          rintro e w3 ⟨rfl, h3⟩
          rw [E1.out]
          go_wp2
          go_roundw
          case rel => exact ⟨k + 1, _, _, _, by omega, by go_num, rfl, rfl, hinv1, h3⟩
          case measure => simp [intOf]; omega
        · obtain ⟨e1, hinv1⟩ := linv_cut hinv hk20 hs1 hdn hfit
          have E1 := Lib.hid e1
          clear hdn hc1 e1 hinv
          go_wp2_with fail
          refine (hone.call (fun F hF => write_any _ F _ _ s1 hF (by omega))).mono ?_
          rintro e w3 ⟨rfl, h3⟩
          rw [E1.out]
          go_wp2
          go_roundw
          case rel => exact ⟨k + 1, _, _, _, by omega, by go_num, rfl, rfl, hinv1, h3⟩
          case measure => simp [intOf]; omega
      · rw [hdn] at hc1
        refine (down_any _ _ _ hc1).mono ?_
        rintro e w' ⟨rfl, rfl⟩
        obtain ⟨e1, hinv1⟩ := linv_down (s := s1) hinv hdn
        have E1 := Lib.hid e1
        clear hdn hc1 e1 hinv
        go_wp2_with fail
        refine (hone.call (fun F hF => write_any _ F _ _ s1 hF (by omega))).mono ?_
        rintro e w3 ⟨rfl, h3⟩
        rw [E1.out] at h3 ⊢
        go_wp2
        go_roundw
        case rel => exact ⟨k + 1, _, _, _, by omega, by go_num, rfl, rfl, hinv1, h3⟩
        case measure => simp [intOf]; omega
    · go_wp2_with fail
      refine (down_any _ _ _ hc1).mono ?_
      rintro e w' ⟨rfl, rfl⟩
      go_wp2_with fail
      refine (hone.call (fun F hF => restart_any _ F _ _ hF)).mono ?_
      rintro e w3 ⟨rfl, h3⟩
      go_wp2_with fail
      refine (h3.read rfl).mono ?_
      rintro e w' ⟨rfl, rfl⟩
      obtain ⟨g1, g2, g3, g4⟩ := linv_end hinv
      have hzt : to.size ≤ 100 := hinv.2.1
      rw [show d.restart.bytes = d.bytes from rfl]
      have hS : (ByteArray.mk d.bytes.toArray).size ≤ 3000 := by
        have := hinv.2.2
        have hsz : (ByteArray.mk d.bytes.toArray).size = d.bytes.length := by simp [ByteArray.size]
        rw [hsz]
        rcases this with ⟨_, h5, _⟩ | ⟨_, p, h5, h6, _⟩
        · rw [h5]; simp; omega
        · rw [h6, List.length_append, List.length_take]; simp; omega
      generalize ByteArray.mk d.bytes.toArray = S at *
      have G2 := Lib.hid g2
      have G3 := Lib.hid g3
      clear g2 g3 hinv hc0 hc1 hc2 h1 h2 hi0 hone hlt
      have H3 := Lib.hid h3.below
      go_wp2_with fail
      refine (prefix_any _ _ (by omega) (by omega) _).mono ?_
      rintro e w' ⟨rfl, rfl⟩
      rw [G2.out]
      go_wp2_with fail
      refine (prefix_any _ _ (by omega) (by simp; omega) _).mono ?_
      rintro e w' ⟨rfl, rfl⟩
      rw [G3.out]
      go_wp2_with fail
      refine (wakes_any _).mono ?_
      rintro e w4 ⟨rfl, h4⟩
      have H4 : Hid (Below w.heap.size w w4) := by
        have := H3.out
        have h5 := this.trans (h4.mono (by rw [HA.out]; exact this.size))
        rw [← HA.out]; exact h5
      clear h4 h3
      rcases g4 with ⟨e1, e2⟩ | ⟨e1, e2, e3, e4⟩
      · rw [e1]
        clear e1
        go_wp2
        go_ret
        exact ⟨rfl, H4.out⟩
      · rw [e1]
        clear e1
        go_wp2
        go_ret
        exact ⟨ret_bool (by simp; omega), H4.out⟩

theorem diskLasts_walk (v : Value) (ss : List ByteArray) (cut : Int) (w : World) (hv : SlAt rpStr w v ss) (hc : (Lit.int .u16 cut).wf = true) :
    Calls Try.prog 4 #[v, .int .u16 cut] w fun e w' => e = .returned (.bool true) ∧ Below w.heap.size w w' := by
  have hb := bounds_u16 hc
  obtain ⟨m, rfl⟩ := Int.eq_ofNat_of_zero_le hb.1
  exact lasts_any v ss m (by omega) w hv

theorem open_strs {H : Type} {enc : TypeId × Value → H} {w : World} {v : Value} {d : DataW H} {ps : List MemPlace} (hv : Value.okWide Try.prog w .any 0 32 v) (h : DataW.Trod enc Try.prog w 0 (fun _ => true) true 32 v d ps) :
    ∃ ss : List ByteArray, SlAt rpStr w v ss := by
  obtain ⟨a, l, c, rfl⟩ := Go.WideShapes.okWide_slice Try.underlying32 hv
  obtain ⟨fuel, hf⟩ := h
  obtain ⟨xs, v', hv', hs⟩ := rp_of_slice (R := rpStr) Try.underlying32 (by kernel_rfl) (by decide) (fun _ _ _ => rp_of_str Try.underlying9) hf
  simp [Value.cells] at hv'
  subst hv'
  exact ⟨xs, hs⟩

end Go.Proofs.Ytoekidgnnibihaa
