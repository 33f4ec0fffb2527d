/-
  The document's Group. Conditions: no more than twenty claims, which lie in memory.
-/
import Derived.Test.YtmakghcoehkphaaGreatKs
import Derived.Test.YtmakghcoehkphaaGreatKr3
namespace Go.Proofs.YtmakghcoehkphaaGreat
open Go.RowKit Go.BigFrame
set_option linter.unusedVariables false
set_option linter.unusedSimpArgs false

structure GsO (base : Nat) (w : World) (o : Value) (gs : List (Value × List PCl)) : Prop where
  row : w.ownsRow base 22 1 o gs.length (gs.map (·.1))
  el : ∀ p ∈ gs, ClsOwn base w p.1 p.2
  out : ∀ p ∈ gs, ∀ b, p.1.ownBlock = some b → o.ownBlock ≠ some b
theorem GsO.below {base : Nat} {w w' : World} {o : Value} {gs : List (Value × List PCl)} (h : GsO base w o gs) (hb : Below w.heap.size w w') : GsO base w' o gs := ⟨ownsRow_below h.row hb, fun p hp => (h.el p hp).below hb, h.out⟩
theorem GsO.sl {base : Nat} {w : World} {o : Value} {gs : List (Value × List PCl)} (h : GsO base w o gs) : SlAt (rpSl rpCl) w o (gs.map (·.2)) := by
  obtain ⟨a, c, rfl, h1, h2⟩ := ownsRow_shape h.row
  refine ⟨a, c, by simp, by simpa using h1, h2, fun i x hi => ?_⟩
  rw [List.getElem?_map] at hi
  obtain ⟨p, hp, rfl⟩ := Option.map_eq_some_iff.1 hi
  have hil : i < gs.length := (List.getElem?_eq_some_iff.1 hp).1
  obtain ⟨g, rfl, hg1, hg2⟩ := ownsRow_some h.row (by omega)
  refine ⟨g, 0, [p.1], rfl, rfl, fun j u hj => ?_, p.1, rfl, (h.el p (List.mem_of_getElem? hp)).sl⟩
  obtain rfl : j = 0 := by have := (List.getElem?_eq_some_iff.1 hj).1; simp at this; omega
  have := h.row.cells (g := g) rfl i u (by simp at hj; simp [hp, hj])
  rw [Addr.add_lit] at this
  simpa [rpSl] using this
theorem GsO.app {base : Nat} {a : Option Addr} {n c : Nat} {w w1 : World} {gs : List (Value × List PCl)} {v : Value} {g : List PCl} (h : GsO base w (.slice a n c) gs) (hn : gs.length = n) (hl : n ≤ 1000) (hb : base ≤ w.heap.size) (hb1 : Below w.heap.size w w1) (hv : ClsOwn w.heap.size w1 v g) (hv1 : v.oneCell' = true) :
    ∃ a' c' w', (Builtin.append_ #[35, 35] 35 #[.slice a n c, .slice (some ⟨w1.heap.size, 0, none⟩) 1 1]).run Tryz.prog (w1.alloc (.cells #[v] 22)) = .ok (.slice a' (n + 1) c') w' ∧
      GsO base w' (.slice a' (n + 1) c') (gs ++ [(v, g)]) ∧ Below base w1 w' := by
  subst hn
  have h1 := h.below hb1
  have hsz := hb1.size
  obtain ⟨i0, hi, hz0, hz1, hz2⟩ := info_parts info_slC
  obtain ⟨a8, c8, w8, hrun, hown8, hb8, hg8, hv8⟩ := append_one (P := Tryz.prog) Tryz.underlying35 hi hz0 hz1 hz2 rfl h1.row #[v] rfl (by simpa using hv1) (by rw [maxLen_eq]; omega) (by omega) (by omega) (ty := 35)
  have hk8 : ∀ p, p < w1.heap.size → (Value.slice a gs.length c).ownBlock ≠ some p → w8.heap[p]? = w1.heap[p]? := fun p hp hn => by
    rw [hg8.block p (by simp; omega) (fun e => hn e.symm)]
    exact Below.heap_alloc _ _ p hp
  have hnew : ∀ p, (Value.slice a8 (gs.length + 1) c8).ownBlock = some p → (Value.slice a gs.length c).ownBlock = some p ∨ p = w1.heap.size + 1 := fun p hp => by
    rcases hv8 with e | e
    · exact .inl (e ▸ hp)
    · rw [e] at hp
      exact .inr (by simpa [eq_comm] using hp)
  have hvo : ∀ b, v.ownBlock = some b → (Value.slice a gs.length c).ownBlock ≠ some b := fun b hb' e => by
    have := (hv.row.lt b hb').1
    have := (h.row.lt b e).2
    omega
  refine ⟨a8, c8, w8, hrun, ⟨?_, fun p hp => ?_, fun p hp b hb' e => ?_⟩, hb8⟩
  · rw [List.length_append, List.map_append]
    exact hown8
  · rcases List.mem_append.1 hp with hp | hp
    · exact (h1.el p hp).kept fun b hb' => hk8 b ((h1.el p hp).row.lt b hb').2 (h.out p hp b hb')
    · obtain rfl := List.mem_singleton.1 hp
      exact (hv.kept fun b hb' => hk8 b (hv.row.lt b hb').2 (hvo b hb')).base hb
  · rcases List.mem_append.1 hp with hp | hp
    · rcases hnew b e with e' | e'
      · exact h.out p hp b hb' e'
      · have := ((h1.el p hp).row.lt b hb').2
        omega
    · obtain rfl := List.mem_singleton.1 hp
      rcases hnew b e with e' | e'
      · exact hvo b hb' e'
      · have := (hv.row.lt b hb').2
        omega
theorem gsO_nil (base : Nat) (w : World) : GsO base w (.slice none 0 0) [] := ⟨World.ownsRow_nil _ _ _ _, fun p hp => by simp at hp, fun p hp => by simp at hp⟩
theorem own_one {w : World} {base e size n : Nat} {v : Value} {xs : List Value} (h : w.ownsRow base e size v n xs) : v.oneCell' = true := by
  obtain ⟨a, c, rfl, -, -⟩ := ownsRow_shape h
  rfl
def nxs (l : List PCl) (last : Int) (i : Nat) : Int := ((l.take i).map bkC).foldl (nxtBF last) (-1)
theorem nxs_step {l : List PCl} {i : Nat} {x : PCl} (last : Int) (h : l[i]? = some x) : nxs l last (i + 1) = nxtBF last (nxs l last i) (bkC x) := by
  unfold nxs
  rw [take_snoc h]
  simp
theorem nxtBF_range {last a b : Int} (ha : -1 ≤ a ∧ a ≤ 1000000) (hb : -1 ≤ b ∧ b ≤ 1000000) : -1 ≤ nxtBF last a b ∧ nxtBF last a b ≤ 1000000 := by
  unfold nxtBF
  split <;> assumption
set_option maxRecDepth 100000 in
set_option maxHeartbeats 8000000 in
theorem rgroup_any (v : Value) (l : List PCl) (w : World) (hv : SlAt rpCl w v l) (hlen : l.length ≤ 20) : Calls Tryz.prog 24 #[v] w (GrpIs (grpG bkC ltC l) w) := by
  have HV := Lib.hid hv
  have HSL := Lib.hid hv
  obtain ⟨a, c, rfl, hl1, hl2⟩ := hv.shape
  rw [maxLen_eq] at hl2
  obtain ⟨n, hn⟩ : ∃ n, n = l.length := ⟨_, rfl⟩
  rw [← hn] at hl1 HSL HV hlen ⊢
  have HN := Lib.hid hn
  have HLEN := Lib.hid hlen
  have HSN := Lib.hid (show (rsB l).length ≤ n by rw [hn]; have := rising_len (l.map bkC); rw [List.length_map] at this; exact this)
  clear hn hv hlen
  go_enter Tryz.func24, Tryz.ntmps24
  go_wp2_with fail
  go_loopg [3, 4, 5] n (fun g ov la i wr => ∃ (k : Nat) (o : Value) (gs : List (Value × List PCl)), ov = o ∧ g = n - k ∧ k ≤ (rsB l).length ∧ i = .int .i64 k ∧ la = .int .i64 (lastAt (rsB l) k) ∧ Below w.heap.size w wr ∧ GsO w.heap.size wr o gs ∧ gs.map (·.2) = ((rsB l).take k).map (ofG bkC ltC l) ∧ gs.length = k)
  case atStart => exact ⟨0, _, [], rfl, rfl, Nat.zero_le _, rfl, rfl, Below.refl _ _, gsO_nil _ _, rfl, rfl⟩
  case round =>
    rename World => wo
    obtain ⟨k, o, gs, ho, hgk, hk, rfl, rfl, hb, hgs, hgm, hgl⟩ := hrel
    obtain rfl := ho.symm
    have HGK := Lib.hid hgk
    have HB := Lib.hid hb
    have HGS := Lib.hid hgs
    have HGM := Lib.hid hgm
    have HGL := Lib.hid hgl
    have HNX := Lib.hid (nxtB_at (l.map bkC) k hk)
    have HKS := Lib.hid hk
    have hkn : k ≤ n := Nat.le_trans hk HSN.out
    obtain ⟨la, hla⟩ : ∃ q, q = lastAt (rsB l) k := ⟨_, rfl⟩
    rw [← hla]
    have HLA := Lib.hid hla
    clear hgk hb hgs hgm hgl hla hk
    by_cases hlt : k < n
    · go_wp2_with fail
      go_loopg [6, 7] n (fun g nx i wr => ∃ j : Nat, g = n - j ∧ j ≤ n ∧ i = .int .i64 j ∧ nx = .int .i64 (nxs l la j) ∧ (-1 ≤ nxs l la j ∧ nxs l la j ≤ 1000000) ∧ wo = wr)
      case atStart => exact ⟨0, rfl, Nat.zero_le _, rfl, rfl, by show (-1 : Int) ≤ -1 ∧ (-1 : Int) ≤ _; decide, rfl⟩
      case round =>
        rename World => wi
        obtain ⟨j, hgj, hj, rfl, rfl, hnr, rfl⟩ := hrel
        have HGJ := Lib.hid hgj
        have HNR := Lib.hid hnr
        obtain ⟨nx, hnx⟩ : ∃ q, q = nxs l la j := ⟨_, rfl⟩
        rw [← hnx] at hnr ⊢
        have HNJ := Lib.hid hnx
        clear hgj hnx
        by_cases hjn : j < n
        · obtain ⟨sb, so, x, rfl, hx, hok, hcl⟩ := (HSL.out.below HB.out).cl hjn
          have d7 := hcl.c7
          have HST := Lib.hid (nxs_step la hx)
          have HBK := Lib.hid (rbucket_any x.dead wo)
          rw [show bktOf x.dead = bkC x from rfl] at HBK
          have hb1 : -1 ≤ bkC x := bkt_lo _
          have hb2 : bkC x ≤ 1000000 := bkt_hi _
          obtain ⟨bx, hbx⟩ : ∃ q, q = bkC x := ⟨_, rfl⟩
          rw [← hbx] at HBK hb1 hb2 HST
          rw [← HNJ.out] at HST
          clear hx hok hcl hbx
          go_wp2_with fail
          refine HBK.out.mono ?_
          rintro e w' ⟨rfl, rfl⟩
          clear HBK d7
          have hcase : (la < bx ∧ nx < 0) ∨ (la < bx ∧ ¬ nx < 0 ∧ bx < nx) ∨ (la < bx ∧ ¬ nx < 0 ∧ ¬ bx < nx) ∨ ¬ la < bx := by omega
          rcases hcase with ⟨h1, h2⟩ | ⟨h1, h2, h3⟩ | ⟨h1, h2, h3⟩ | h1
          · have HF := Lib.hid (show nxs l la (j + 1) = bx by rw [HST.out]; unfold nxtBF; rw [if_pos ⟨h1, .inl h2⟩])
            go_wp2_with fail
            go_roundg (n - (j + 1))
            case measure => have := HGJ.out; omega
            case rel => exact ⟨j + 1, rfl, by omega, by go_num, by rw [HF.out], by rw [HF.out]; exact ⟨hb1, hb2⟩, rfl⟩
          · have HF := Lib.hid (show nxs l la (j + 1) = bx by rw [HST.out]; unfold nxtBF; rw [if_pos ⟨h1, .inr h3⟩])
            go_wp2_with fail
            go_roundg (n - (j + 1))
            case measure => have := HGJ.out; omega
            case rel => exact ⟨j + 1, rfl, by omega, by go_num, by rw [HF.out], by rw [HF.out]; exact ⟨hb1, hb2⟩, rfl⟩
          · have HF := Lib.hid (show nxs l la (j + 1) = nx by rw [HST.out]; unfold nxtBF; rw [if_neg (by omega)])
            go_wp2_with fail
            go_roundg (n - (j + 1))
            case measure => have := HGJ.out; omega
            case rel => exact ⟨j + 1, rfl, by omega, by go_num, by rw [HF.out], by rw [HF.out]; exact hnr, rfl⟩
          · have HF := Lib.hid (show nxs l la (j + 1) = nx by rw [HST.out]; unfold nxtBF; rw [if_neg (by omega)])
            go_wp2_with fail
            go_roundg (n - (j + 1))
            case measure => have := HGJ.out; omega
            case rel => exact ⟨j + 1, rfl, by omega, by go_num, by rw [HF.out], by rw [HF.out]; exact hnr, rfl⟩
        · obtain rfl : n = j := by omega
          have HNF := Lib.hid (show nx = (rsB l).getD k (-1) by
            rw [HNJ.out]
            have h := HNX.out
            rw [show lastAt (rising (l.map bkC)) k = la from HLA.out.symm] at h
            unfold nxs
            rw [List.take_of_length_le (by rw [HN.out]; exact Nat.le_refl _)]
            exact h)
          obtain ⟨ao, co, hov, -, -⟩ := ownsRow_shape HGS.out.row
          rw [HGL.out] at hov
          subst hov
          by_cases hneg : nx < 0
          · have hkl : k = (rsB l).length := by
              by_cases h : k < (rsB l).length
              · exfalso
                have h2 := HNF.out
                rw [List.getD_eq_getElem?_getD, List.getElem?_eq_getElem h] at h2
                have h3 := (rsB_mem (List.getElem_mem h)).1.1
                simp at h2
                omega
              · have := HKS.out; omega
            have HF := Lib.hid (show GrpIs (grpG bkC ltC l) w (.returned (.slice ao k co)) wo from ⟨_, rfl, by
              have h := HGS.out.sl
              rw [HGM.out, List.take_of_length_le (by omega)] at h
              exact h, HB.out⟩)
            clear hkl
            go_wp2_with fail
            go_ret
            exact HF.out
          · have hkl : k < (rsB l).length := Classical.byContradiction fun h => by
              have h2 := HNF.out
              rw [List.getD_eq_getElem?_getD, List.getElem?_eq_none (by omega)] at h2
              simp at h2
              omega
            have HAT := Lib.hid (show (rsB l)[k]? = some nx by
              have h2 := HNF.out
              rw [List.getD_eq_getElem?_getD, List.getElem?_eq_getElem hkl] at h2
              rw [List.getElem?_eq_getElem hkl, h2]; rfl)
            have HLS := Lib.hid (show lastAt (rsB l) (k + 1) = nx from HNF.out.symm)
            go_wp2_with fail
            refine (rof_any _ l nx wo (HV.out.below HB.out) (by have := HLEN.out; rw [HN.out] at this; exact this) (by omega)).mono ?_
            rintro e w1 ⟨v1, rfl, hv1, hb1⟩
            have HB1 := Lib.hid (HB.out.trans (hb1.mono HB.out.size))
            obtain ⟨a8, c8, w8, hrun, hgs8, hb8⟩ := HGS.out.app HGL.out (by have := HLEN.out; omega) HB.out.size hb1 hv1 (own_one hv1.row)
            have HR := Lib.hid hrun
            have HG8 := Lib.hid hgs8
            have HB8 := Lib.hid (HB1.out.trans hb8)
            obtain ⟨av, cv, hvv, -, -⟩ := ownsRow_shape hv1.row
            subst hvv
            clear hv1 hb1 hrun hgs8 hb8
            go_wp2_with (at_builtin; refine wpList_append_run rfl (.tmp 47) (.tmp 49) 35 35 rfl rfl rfl HR.out ?_)
            go_roundg (n - (k + 1))
            case measure => have := HGK.out; omega
            case rel => exact ⟨k + 1, _, _, rfl, rfl, hkl, by go_num, by rw [HLS.out], HB8.out, HG8.out, by rw [List.map_append, HGM.out, List.take_add_one, HAT.out, List.map_append]; rfl, by rw [List.length_append, HGL.out]; rfl⟩
    · have hkl : k = (rsB l).length := by have := HSN.out; have := HKS.out; omega
      have HF := Lib.hid (show GrpIs (grpG bkC ltC l) w (.returned o) wo from ⟨_, rfl, by
        have h := HGS.out.sl
        rw [HGM.out, List.take_of_length_le (by omega)] at h
        exact h, HB.out⟩)
      clear hkl
      go_wp2_with fail
      go_ret
      exact HF.out
end Go.Proofs.YtmakghcoehkphaaGreat
