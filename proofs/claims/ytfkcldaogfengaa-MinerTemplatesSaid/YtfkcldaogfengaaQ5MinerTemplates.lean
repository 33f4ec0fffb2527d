/-
  MinerTemplates, part 5: the texts Mm, Mn, Mo, Mw, M1, M2, MinerTemplatesLaw, one after another. Conditions: none beyond those named at each.
-/
import Derived.Test.YtfkcldaogfengaaQ4MinerTemplates
import Derived.Test.YtfkcldaogfengaaQ3MinerTemplates
import Derived.Test.YtfkcldaogfengaaQ1MinerTemplates
import Derived.Test.YtfkcldaogfengaaRows
import Derived.ProofKit
import Derived.OpenShut
import Derived.ShutString
import Derived.ChangeOld
import Derived.Below
section
/-
  The document's Bundle of an entry. Conditions: the entries lie in memory.
-/
namespace Go.Proofs.Ytfkcldaogfengaa
open Go.RowKit Go.BigFrame
set_option linter.unusedVariables false
set_option linter.unusedSimpArgs false

theorem info_bl : (Try.prog.info? 4).map (fun i => (i.zero, i.size, i.bytes)) = some (some (.bool false), 1, 1) := by kernel_rfl
/-- A row of Booleans of the call's own. -/
def BlRow (base : Nat) (w : World) (v : Value) (bs : List Bool) : Prop := w.ownsRow base 4 1 v bs.length (bs.map Value.bool)
theorem BlRow.sl {base : Nat} {w : World} {v : Value} {bs : List Bool} (h : BlRow base w v bs) : SlAt rpBool w v bs := by
  obtain ⟨a, c, e, h1, h2⟩ := ownsRow_shape h
  subst e
  refine ⟨a, c, rfl, h1, h2, fun i x hi => ?_⟩
  have hil : i < bs.length := (List.getElem?_eq_some_iff.1 hi).1
  obtain ⟨b, rfl, hb, hb2⟩ := ownsRow_some h (by omega)
  refine ⟨b, 0, [.bool x], rfl, rfl, fun j u hj => ?_, rfl⟩
  match j, hj with
  | 0, hj =>
    simp at hj
    subst hj
    have := h.cells (g := b) rfl i (.bool x) (by rw [List.getElem?_map, hi]; rfl)
    rw [Addr.add_lit] at this
    simpa [rpBool] using this
theorem BlRow.below {base : Nat} {w w' : World} {v : Value} {bs : List Bool} (h : BlRow base w v bs) (hb : Below w.heap.size w w') : BlRow base w' v bs := ownsRow_below h hb
theorem BlRow.get {base R n c : Nat} {w : World} {bs : List Bool} (h : BlRow base w (.slice (some ⟨R, 0, none⟩) n c) bs) {i : Nat} (hi : i < bs.length) : ∃ b, bs[i]? = some b ∧ w.cell? ⟨R, i, none⟩ = some (.bool b) := by
  refine ⟨bs[i], List.getElem?_eq_getElem hi, ?_⟩
  have := h.cells (g := R) rfl i (.bool bs[i]) (by rw [List.getElem?_map, List.getElem?_eq_getElem hi]; rfl)
  rwa [Addr.add_lit, Nat.zero_add] at this
theorem BlRow.put {base R n c : Nat} {w : World} {bs : List Bool} (h : BlRow base w (.slice (some ⟨R, 0, none⟩) n c) bs) {i : Nat} (hi : i < bs.length) (b : Bool) : BlRow base (w.setCell ⟨R, i, none⟩ (.bool b)) (.slice (some ⟨R, 0, none⟩) n c) (bs.set i b) := by
  have hn : n = bs.length := by
    obtain ⟨a', c', e, -, -⟩ := ownsRow_shape h
    injection e
  subst hn
  unfold BlRow
  rw [List.length_set, List.map_set]
  exact ownsRow_set h (by rw [List.length_map]; exact hi) _
theorem BlRow.free {base R n c : Nat} {w : World} {bs : List Bool} (h : BlRow base w (.slice (some ⟨R, 0, none⟩) n c) bs) (j : Nat) : w.frozen? ⟨R, j, none⟩ = false := ownsRow_free h j
theorem mk_bools (w : World) (n : Nat) (hn : n ≤ 1000) : ∃ w1, (Instr.makeSlice 26 (.int .i64 (n : Int)) (.int .i64 (n : Int))).run Try.prog w = .ok (.slice (some ⟨w.heap.size, 0, none⟩) n n) w1 ∧ BlRow w.heap.size w1 (.slice (some ⟨w.heap.size, 0, none⟩) n n) (List.replicate n false) ∧ Below w.heap.size w w1 := by
  obtain ⟨i0, hi, hz0, hz1, hz2⟩ := info_parts info_bl
  obtain ⟨w1, hmk, hown, hg⟩ := run_makeSlice_full (P := Try.prog) w w.heap.size 26 4 i0 _ 1 Try.underlying26 hi hz0 hz1 .i64 .i64 n (by omega) (by rw [hz2]; omega) (by rw [maxLen_eq]; omega) (Nat.le_refl _)
  refine ⟨w1, hmk, ?_, (Below.refl _ _).grown hg (Nat.le_refl _) (fun k h => by cases h)⟩
  unfold BlRow
  rw [List.length_replicate, List.map_replicate]
  have e : (madeCells #[.bool false] (n * 1)).toList = List.replicate n (.bool false) := by
    apply List.ext_getElem
    · simp [madeCells]
    · intro i h1 h2
      simp [madeCells, Nat.mod_one]
  have h2 : w1.ownsRow w.heap.size 4 1 (.slice (some ⟨w.heap.size, 0, none⟩) n n) n (madeCells #[.bool false] (n * 1)).toList := hown
  rw [e] at h2
  exact h2
structure BS (w : World) (n : Nat) (S : List Bool) (wr : World) : Prop where
  bel : Below w.heap.size w wr
  row : BlRow w.heap.size wr (.slice (some ⟨w.heap.size, 0, none⟩) n n) S
theorem BS.below {w wr w' : World} {n : Nat} {S : List Bool} (h : BS w n S wr) (hb : Below wr.heap.size wr w') : BS w n S w' := ⟨h.bel.trans (hb.mono h.bel.size), h.row.below hb⟩
theorem BS.put {w wr : World} {n : Nat} {S : List Bool} (h : BS w n S wr) {i : Nat} (hi : i < S.length) (b : Bool) : BS w n (S.set i b) (wr.setCell ⟨w.heap.size, i, none⟩ (.bool b)) := ⟨h.bel.setCell (Nat.le_refl _) _, h.row.put hi b⟩
/-- Those that are reached, but of the first i for those that are to be left out. -/
noncomputable def cutR (l : List PE) (a : Nat) (but : List Bool) (i : Nat) : List Bool := (List.range l.length).map fun k => reachB l a k && !(decide (k < i) && but.getD k false)
theorem cutR_len (l : List PE) (a : Nat) (but : List Bool) (i : Nat) : (cutR l a but i).length = l.length := by unfold cutR; rw [List.length_map, List.length_range]
theorem cutR_zero (l : List PE) (a : Nat) (but : List Bool) : cutR l a but 0 = (List.range l.length).map (reachB l a) := by
  unfold cutR
  refine List.map_congr_left fun k _ => ?_
  simp
theorem cutR_skip {l : List PE} {a i : Nat} {but : List Bool} (h : but.getD i false = false) : cutR l a but (i + 1) = cutR l a but i := by
  unfold cutR
  refine List.map_congr_left fun k _ => ?_
  by_cases e : k = i
  · subst e; rw [h]; simp
  · have : decide (k < i + 1) = decide (k < i) := by rw [decide_eq_decide]; omega
    rw [this]
theorem cutR_put {l : List PE} {a i : Nat} {but : List Bool} (h : but.getD i false = true) : cutR l a but (i + 1) = (cutR l a but i).set i false := by
  unfold cutR
  refine List.ext_getElem? fun k => ?_
  by_cases e : i = k
  · subst e
    by_cases hk : i < l.length
    · rw [List.getElem?_set_self (by simpa using hk), List.getElem?_map, List.getElem?_range hk]
      simp only [Option.map_some, h]
      simp
    · rw [List.getElem?_eq_none (by simp; omega), List.getElem?_eq_none (by simp; omega)]
  · rw [List.getElem?_set_ne e, List.getElem?_map, List.getElem?_map]
    cases hr : (List.range l.length)[k]? with
    | none => rfl
    | some q =>
      have hq : q = k := by
        have := List.getElem?_eq_some_iff.1 hr
        obtain ⟨h1, h2⟩ := this
        rw [List.getElem_range] at h2
        exact h2.symm
      subst hq
      simp only [Option.map_some]
      have : decide (q < i + 1) = decide (q < i) := by rw [decide_eq_decide]; omega
      rw [this]
theorem cutR_all {l : List PE} {a n : Nat} {but : List Bool} (h : n = l.length) : cutR l a but n = (List.range l.length).map fun k => reachB l a k && !(but.getD k false) := by
  unfold cutR
  refine List.map_congr_left fun k hk => ?_
  rw [decide_eq_true (by have := List.mem_range.1 hk; omega)]
  simp
def BdP (l : List PE) (a : Nat) (but : List Bool) (w : World) (e : Ending) (w' : World) : Prop := ∃ v, e = .returned v ∧ BlRow w.heap.size w' v ((List.range l.length).map fun k => reachB l a k && !(but.getD k false)) ∧ Below w.heap.size w w'
set_option maxRecDepth 100000 in
set_option maxHeartbeats 4000000 in
theorem bundle21_any (sl bv : Value) (l : List PE) (at_ : Nat) (but : List Bool) (w : World) (hsl : SlAt rpE w sl l) (hbv : SlAt rpBool w bv but) (hat : at_ < l.length) (hlen : l.length ≤ 1000) (hbl : but.length = l.length) :
    Calls Try.prog 11 #[sl, .int .i64 at_, bv] w (BdP l at_ but w) := by
  have HSL := Lib.hid hsl
  have HBV := Lib.hid hbv
  have HAT := Lib.hid hat
  have HBL := Lib.hid hbl
  obtain ⟨a, c, rfl, hl1, hl2⟩ := hsl.shape
  obtain ⟨a', c', rfl, hq1, hq2⟩ := hbv.shape
  rw [maxLen_eq] at hl2 hq2
  rw [hbl] at hq1 HBV ⊢
  obtain ⟨n, hn⟩ : ∃ n, n = l.length := ⟨_, rfl⟩
  rw [← hn] at hl1 HSL hat hlen hq1 HBV ⊢
  have HN := Lib.hid hn
  obtain ⟨w1, hmk, hrow, hb1⟩ := mk_bools w n hlen
  have hst := (show BS w n (List.replicate n false) w1 from ⟨hb1, hrow⟩).put (i := at_) (by simpa using hat) true
  have c0 : w1.cell? ⟨w.heap.size, at_, none⟩ = some (.bool false) := by
    obtain ⟨b, h1, h2⟩ := hrow.get (i := at_) (by simpa using hat)
    rw [List.getElem?_replicate, if_pos hat] at h1
    rw [h2, ← Option.some.inj h1]
  have f0 := hrow.free at_
  have HST := Lib.hid hst
  have HR0 := Lib.hid (show Rnd l at_ ((List.replicate n false).set at_ true) 0 by rw [hn]; exact Marks.start HAT.out)
  generalize (List.replicate n false).set at_ true = S0 at *
  clear hsl hbv hn hbl hrow hst hb1
  go_enter Try.func11, Try.ntmps11
  go_wp2_with fail
  generalize w1.setCell ⟨w.heap.size, at_, none⟩ (.bool true) = w2 at *
  clear hmk c0 f0
  go_loopg [8] (n + 1) (fun g i wr => ∃ (r : Nat) (S : List Bool), g = n + 1 - r ∧ r ≤ n + 1 ∧ i = .int .i64 r ∧ Rnd l at_ S r ∧ BS w n S wr)
  case atStart => exact ⟨0, S0, rfl, by omega, rfl, HR0.out, HST.out⟩
  case round =>
    clear HST HR0
    rename World => wo
    obtain ⟨r, S, hgr, hr, rfl, hrn, hst⟩ := hrel
    have HGR := Lib.hid hgr
    have HRN := Lib.hid hrn
    have HST := Lib.hid hst
    have HSLN := Lib.hid (show S.length = n by rw [hrn.1.len]; exact HN.out.symm)
    clear hgr hrn hst
    by_cases hrl : r < n + 1
    · have hrl' : (r : Int) ≤ (n : Int) := by omega
      go_wp2_with fail
      go_loopg [9] n (fun g i wr => ∃ (k : Nat) (T : List Bool), g = n - k ∧ k ≤ n ∧ i = .int .i64 k ∧ Mid l at_ S T k 0 ∧ BS w n T wr)
      case atStart => exact ⟨0, S, rfl, by omega, rfl, HRN.out.mid, HST.out⟩
      case round =>
        clear HST
        rename World => wp
        obtain ⟨i, T, hgi, hi, rfl, hmid, hst⟩ := hrel
        have HGI := Lib.hid hgi
        have HMID := Lib.hid hmid
        have HST := Lib.hid hst
        clear hgi hmid hst
        by_cases hin : i < n
        · go_wp2_with fail
          go_loopg [10] n (fun g j wr => ∃ (k : Nat) (T : List Bool), g = n - k ∧ k ≤ n ∧ j = .int .i64 k ∧ Mid l at_ S T i k ∧ BS w n T wr)
          case atStart => exact ⟨0, T, rfl, by omega, rfl, HMID.out, HST.out⟩
          case round =>
            clear HST HMID
            rename World => wq
            obtain ⟨k, U, hgk, hk, rfl, hmid, hst⟩ := hrel
            have HGK := Lib.hid hgk
            have HMID := Lib.hid hmid
            have HST := Lib.hid hst
            have hul : U.length = n := by rw [hmid.marks.len]; exact HN.out.symm
            have HUL := Lib.hid hul
            clear hgk hmid hst hul
            by_cases hkn : k < n
            · obtain ⟨sb, so, x, ia, ni, ic, oa, no, oc, rfl, hx, hxe, -, d0, d1, d2, d3, -, -, -⟩ := (HSL.out.below HST.out.bel).ent hkn
              obtain ⟨sb', so', y, ia', ni', ic', oa', no', oc', hsa, hy, hye, -, g0, g1, g2, g3, g4, g5, g6⟩ := (HSL.out.below HST.out.bel).ent hin
              obtain ⟨rfl, rfl⟩ : sb = sb' ∧ so = so' := by simpa using hsa
              obtain ⟨ed, hed⟩ : ∃ ed, ed = hangsB x.tx y := ⟨_, rfl⟩
              have HED := Lib.hid (show edge l k i = ed from (edge_at hx hy).trans hed.symm)
              have HHG := Lib.hid (show ∀ wy : World, Below wq.heap.size wq wy → Calls Try.prog 16 #[.agg #[.int .u32 x.tx.ver, .slice ia ni ic, .slice oa no oc, .int .u32 x.tx.lock], .agg #[.int .u32 y.tx.ver, .slice ia' ni' ic', .slice oa' no' oc', .int .u32 y.tx.lock, .string y.id, .int .i64 y.fee, .int .i64 y.size]] wy (fun e w' => e = .returned (.bool ed) ∧ Below wy.heap.size wy w') from fun wy h =>
                hed ▸ hangs14_any x.tx y _ _ _ wy (hxe.below h).tx (hye.below h))
              clear hx hy hxe hye hsa hed
              go_upto_region 12 with fail
              go_cut [11] (fun v wx => v = .bool ed ∧ Below wq.heap.size wq wx)
              case first =>
                obtain ⟨C, hC⟩ : ∃ C : World → Prop, C = fun w' => Below wq.heap.size wq w' := ⟨_, rfl⟩
                have kd0 := kin_cell hC d0
                have kd1 := kin_cell hC d1
                have kd2 := kin_cell hC d2
                have kd3 := kin_cell hC d3
                have kg0 := kin_cell hC g0
                have kg1 := kin_cell hC g1
                have kg2 := kin_cell hC g2
                have kg3 := kin_cell hC g3
                have kg4 := kin_cell hC g4
                have kg5 := kin_cell hC g5
                have kg6 := kin_cell hC g6
                have QNh := Lib.hid (kin_call hC fun y h => (HHG.out y h))
                have HC := Lib.hid hC
                clear hC
                refine wp_region_kin C (by kernel_rfl) (by kernel_rfl) (by rw [HC.out]; exact ⟨rfl, rfl, rfl, Nat.le_refl _, fun _ _ => rfl⟩) ?_
                intro hne
                repeat (first | (go_big_quiet_step ((rename_i y; go_at_call 16; exact Calls.kin (QNh.out y) (fun w' h => h)))) | (quiet_step ((rename_i y; go_at_call 16; exact Calls.kin (QNh.out y) (fun w' h => h)))))
                refine wpQuiet_nil ?_
                intro _ hw'
                obtain ⟨kx, hw''⟩ := hw'
                subst hw''
                obtain ⟨w3, hxc⟩ := kx
                rw [HC.out] at hxc
                clear HC hne kd0 kd1 kd2 kd3 kg0 kg1 kg2 kg3 kg4 kg5 kg6
                go_wp2_with fail
                go_meet
                exact ⟨rfl, hxc⟩
              case rest =>
                obtain ⟨rfl, hxc⟩ := hcut
                rename World => w3
                have HST3 := Lib.hid (HST.out.below hxc)
                clear hxc d0 d1 d2 d3 g0 g1 g2 g3 g4 g5 g6 HHG
                obtain ⟨ti, hti, t0⟩ := HST3.out.row.get (i := i) (by rw [HUL.out]; exact hin)
                obtain ⟨tk, htk, t1⟩ := HST3.out.row.get (i := k) (by rw [HUL.out]; exact hkn)
                have f1 := HST3.out.row.free i
                have hmid := HMID.out.step hti htk
                rw [HED.out] at hmid
                have hput := HST3.out.put (i := i) (by rw [HUL.out]; exact hin) (ti || (tk && ed))
                have HMID3 := Lib.hid hmid
                have HPUT := Lib.hid hput
                clear hti htk hmid hput
                cases ti
                · cases tk
                  · go_wp2_with fail
                    go_roundg (n - (k + 1))
                    case measure => have := HGK.out; omega
                    case rel => exact ⟨k + 1, _, rfl, by omega, by go_num, HMID3.out, HPUT.out⟩
                  · cases ed
                    · go_wp2_with fail
                      go_roundg (n - (k + 1))
                      case measure => have := HGK.out; omega
                      case rel => exact ⟨k + 1, _, rfl, by omega, by go_num, HMID3.out, HPUT.out⟩
                    · go_wp2_with fail
                      go_roundg (n - (k + 1))
                      case measure => have := HGK.out; omega
                      case rel => exact ⟨k + 1, _, rfl, by omega, by go_num, HMID3.out, HPUT.out⟩
                · go_wp2_with fail
                  go_roundg (n - (k + 1))
                  case measure => have := HGK.out; omega
                  case rel => exact ⟨k + 1, _, rfl, by omega, by go_num, HMID3.out, HPUT.out⟩
            · obtain rfl : k = n := by omega
              have HNX := Lib.hid (show Mid l at_ S U (i + 1) 0 by have h := HMID.out; rw [HN.out] at h; exact h.next)
              go_wp2_with fail
              go_roundg (k - (i + 1))
              case measure => have := HGI.out; omega
              case rel => exact ⟨i + 1, U, rfl, by omega, by go_num, HNX.out, HST.out⟩
        · obtain rfl : i = n := by omega
          have HNX := Lib.hid (show Rnd l at_ T (r + 1) by have h := HMID.out; rw [HN.out] at h; exact h.rnd HRN.out)
          go_wp2_with fail
          go_roundg (i + 1 - (r + 1))
          case measure => have := HGR.out; omega
          case rel => exact ⟨r + 1, T, rfl, by omega, by go_num, HNX.out, HST.out⟩
    · obtain rfl : r = n + 1 := by omega
      have HALL := Lib.hid (HRN.out.all (by have := HN.out; omega))
      have HST := Lib.hid (show BS w n (cutR l at_ but 0) wo by rw [cutR_zero, ← HALL.out]; exact HST.out)
      clear HSLN
      go_wp2_with fail
      go_loopg [12] n (fun g i wr => ∃ k : Nat, g = n - k ∧ k ≤ n ∧ i = .int .i64 k ∧ BS w n (cutR l at_ but k) wr)
      case atStart => exact ⟨0, rfl, by omega, rfl, HST.out⟩
      case round =>
        clear HST
        rename World => wp
        obtain ⟨k, hgk, hk, rfl, hst⟩ := hrel
        have HGK := Lib.hid hgk
        have HST := Lib.hid hst
        clear hgk hst
        by_cases hkn : k < n
        · obtain ⟨vb, vo, y, rfl, hy, d0⟩ := (HBV.out.below HST.out.bel).bool hkn
          have hgd : but.getD k false = y := by rw [List.getD_eq_getElem?_getD, hy]; rfl
          have HGD := Lib.hid hgd
          clear hy hgd
          cases y
          · have HNX := Lib.hid (cutR_skip (l := l) (a := at_) HGD.out)
            go_wp2_with fail
            go_roundg (n - (k + 1))
            case measure => have := HGK.out; omega
            case rel => exact ⟨k + 1, rfl, by omega, by go_num, by rw [HNX.out]; exact HST.out⟩
          · have hkl : k < (cutR l at_ but k).length := by rw [cutR_len, ← HN.out]; exact hkn
            have HNX := Lib.hid (cutR_put (l := l) (a := at_) HGD.out)
            obtain ⟨ti, -, t0⟩ := HST.out.row.get hkl
            have f1 := HST.out.row.free k
            have HPUT := Lib.hid (HST.out.put hkl false)
            clear hkl
            go_wp2_with fail
            go_roundg (n - (k + 1))
            case measure => have := HGK.out; omega
            case rel => exact ⟨k + 1, rfl, by omega, by go_num, by rw [HNX.out]; exact HPUT.out⟩
        · obtain rfl : k = n := by omega
          have HF := Lib.hid (cutR_all (l := l) (a := at_) (but := but) HN.out)
          go_wp2_with fail
          go_ret
          exact ⟨_, rfl, by rw [← HF.out]; exact HST.out.row, HST.out.bel⟩
end Go.Proofs.Ytfkcldaogfengaa
end

section
/-
  The document's Template. Conditions: the entries, of bounded fees and sizes, lie in memory.
-/
namespace Go.Proofs.Ytfkcldaogfengaa
open Go.RowKit Go.BigFrame
set_option linter.unusedVariables false
set_option linter.unusedSimpArgs false

/-- Places as marks. -/
def tb (n : Nat) (ps : List Nat) : List Bool := (List.range n).map fun k => ps.contains k
theorem tb_len (n : Nat) (ps : List Nat) : (tb n ps).length = n := by unfold tb; rw [List.length_map, List.length_range]
theorem tb_nil (n : Nat) : tb n [] = List.replicate n false := by
  unfold tb
  refine List.ext_getElem? fun k => ?_
  rw [List.getElem?_map, List.getElem?_replicate]
  by_cases hk : k < n
  · rw [List.getElem?_range hk, if_pos hk]; rfl
  · rw [List.getElem?_eq_none (by simpa using hk), if_neg hk]; rfl
theorem tb_at {n k : Nat} {ps : List Nat} (hk : k < n) : (tb n ps)[k]? = some (ps.contains k) := by
  unfold tb
  rw [List.getElem?_map, List.getElem?_range hk]
  rfl
theorem tb_get {n k : Nat} {ps : List Nat} (hk : k < n) : (tb n ps).getD k false = ps.contains k := by
  rw [List.getD_eq_getElem?_getD, tb_at hk]; rfl
theorem tb_snoc {n i : Nat} {ps : List Nat} (hi : i < n) : tb n (ps ++ [i]) = (tb n ps).set i true := by
  refine List.ext_getElem? fun k => ?_
  by_cases hk : k < n
  · rw [tb_at hk]
    by_cases e : i = k
    · subst e
      rw [List.getElem?_set_self (by rw [tb_len]; exact hi)]
      simp
    · rw [List.getElem?_set_ne e, tb_at hk]
      refine congrArg some ?_
      rw [Bool.eq_iff_iff]
      simp [List.contains_iff_mem]
      exact fun h => absurd h.symm e
  · rw [List.getElem?_eq_none (by rw [tb_len]; omega), List.getElem?_eq_none (by rw [List.length_set, tb_len]; omega)]
/-- Of marks as they come from Bundle: the places of a package. -/
theorem insOf_bund {l : List PE} {i n : Nat} {ps : List Nat} (hn : n = l.length) : insOf ((List.range l.length).map fun k => reachB l i k && !((tb n ps).getD k false)) l.length = bundL l i fun k => ps.contains k := by
  subst hn
  unfold insOf bundL
  refine List.filter_congr fun k hk => ?_
  have hk' := List.mem_range.1 hk
  rw [List.getD_eq_getElem?_getD, List.getElem?_map, List.getElem?_range hk']
  simp only [Option.map_some, Option.getD_some]
  rw [tb_get hk']
structure DT (w : World) (n A B C : Nat) (vo : Value) (st sp : List Bool) (q : List Nat) (wr : World) : Prop where
  bel : Below w.heap.size w wr
  ab : w.heap.size ≤ A ∧ A < B ∧ B < C ∧ C ≤ wr.heap.size
  tk : BlRow A wr (.slice (some ⟨A, 0, none⟩) n n) st
  ps : BlRow B wr (.slice (some ⟨B, 0, none⟩) n n) sp
  od : NatRow C wr vo q
section
variable {w wr w' : World} {n A B C : Nat} {vo : Value} {st sp : List Bool} {q : List Nat}
theorem DT.below (h : DT w n A B C vo st sp q wr) (hb : Below wr.heap.size wr w') : DT w n A B C vo st sp q w' :=
  ⟨h.bel.trans (hb.mono h.bel.size), ⟨h.ab.1, h.ab.2.1, h.ab.2.2.1, Nat.le_trans h.ab.2.2.2 hb.size⟩, h.tk.below hb, h.ps.below hb, h.od.below hb⟩
theorem DT.putT (h : DT w n A B C vo st sp q wr) {i : Nat} (hi : i < st.length) (b : Bool) : DT w n A B C vo (st.set i b) sp q (wr.setCell ⟨A, i, none⟩ (.bool b)) :=
  ⟨h.bel.setCell (p := ⟨A, i, none⟩) h.ab.1 _, ⟨h.ab.1, h.ab.2.1, h.ab.2.2.1, by have := h.ab.2.2.2; simpa using this⟩, h.tk.put hi b,
    ownsRow_other h.ps _ _ (fun e => by have := (h.ps.lt _ e).1; have := h.ab.2.1; dsimp only at *; omega), ownsRow_other h.od _ _ (fun e => by have := (h.od.lt _ e).1; have := h.ab; dsimp only at *; omega)⟩
theorem DT.putP (h : DT w n A B C vo st sp q wr) {i : Nat} (hi : i < sp.length) (b : Bool) : DT w n A B C vo st (sp.set i b) q (wr.setCell ⟨B, i, none⟩ (.bool b)) :=
  ⟨h.bel.setCell (p := ⟨B, i, none⟩) (by have := h.ab; dsimp only; omega) _, ⟨h.ab.1, h.ab.2.1, h.ab.2.2.1, by have := h.ab.2.2.2; simpa using this⟩,
    ownsRow_other h.tk _ _ (fun e => by
      obtain rfl : A = B := by simpa [Value.ownBlock] using e
      have := h.ab.2.1; omega), h.ps.put hi b, ownsRow_other h.od _ _ (fun e => by have := (h.od.lt _ e).1; have := h.ab; dsimp only at *; omega)⟩
theorem DT.app (h : DT w n A B C vo st sp q wr) (j : Nat) (hn : q.length < 1000000) :
    ∃ a' c' wd, (Builtin.append_ #[23, 23] 23 #[vo, .slice (some ⟨wr.heap.size, 0, none⟩) 1 1]).run Try.prog (wr.alloc (.cells #[.int .i64 (j : Int)] 3)) = .ok (.slice a' (q.length + 1) c') wd ∧
      DT w n A B C (.slice a' (q.length + 1) c') st sp (q ++ [j]) wd ∧ (∀ b, b < wr.heap.size → vo.ownBlock ≠ some b → wd.heap[b]? = wr.heap[b]?) ∧ (∀ b, (Value.slice a' (q.length + 1) c').ownBlock = some b → vo.ownBlock = some b ∨ wr.heap.size ≤ b) := by
  obtain ⟨i0, hi, hz0, hz1, hz2⟩ := info_parts info_int
  obtain ⟨a2, c2, w2, hrun, hown2, hb2, hg2, hv2⟩ := append_one (P := Try.prog) Try.underlying23 hi hz0 hz1 hz2 rfl h.od #[.int .i64 (j : Int)] rfl (by simp [Value.oneCell']) (by rw [maxLen_eq]; omega) (by omega) h.ab.2.2.2 (ty := 23)
  have keep : ∀ b, b < wr.heap.size → vo.ownBlock ≠ some b → w2.heap[b]? = wr.heap[b]? := fun b hb hne => by
    rw [hg2.block b (by simp; omega) (fun e => hne e.symm)]; exact Below.heap_alloc wr _ b hb
  have hC := h.ab
  refine ⟨a2, c2, w2, hrun, ⟨h.bel.trans (hb2.mono (by omega)), ⟨hC.1, hC.2.1, hC.2.2.1, Nat.le_trans hC.2.2.2 hb2.size⟩, ?_, ?_, ?_⟩, keep, fun b hb => ?_⟩
  · exact ownsRow_of_block h.tk fun b hb => keep b (h.tk.lt b hb).2 (fun e => by
      obtain rfl : A = b := by simpa [Value.ownBlock] using hb
      have := (h.od.lt _ e).1; omega)
  · exact ownsRow_of_block h.ps fun b hb => keep b (h.ps.lt b hb).2 (fun e => by
      obtain rfl : B = b := by simpa [Value.ownBlock] using hb
      have := (h.od.lt _ e).1; omega)
  · unfold NatRow
    rw [List.length_append, List.map_append, List.map_append]
    exact hown2
  · rcases hv2 with e | e
    · exact .inl (e ▸ hb)
    · rw [e] at hb; injection hb with hb; exact .inr (by omega)
end
end Go.Proofs.Ytfkcldaogfengaa
end

section
/-
  The document's Template: the walk. Conditions: the entries, of bounded fees and sizes, lie in memory.
-/
namespace Go.Proofs.Ytfkcldaogfengaa
open Go.RowKit Go.BigFrame
set_option linter.unusedVariables false
set_option linter.unusedSimpArgs false

def OrdP (l : List PE) (q : List Nat) (w : World) (e : Ending) (w' : World) : Prop := ∃ v, e = .returned v ∧ NatRow w.heap.size w' v q ∧ Below w.heap.size w w'
set_option maxRecDepth 100000 in
set_option maxHeartbeats 4000000 in
theorem template21_any (sl : Value) (l : List PE) (thr m0 : Int) (w : World) (hsl : SlAt rpE w sl l) (hz : Sized l) (hm0 : -9223372036854775808 ≤ m0 ∧ m0 ≤ 9223372036854775807) :
    Calls Try.prog 14 #[sl, .int .i64 thr, .int .i64 m0] w (OrdP l (tmplL l thr m0) w) := by
  have HSL := Lib.hid hsl
  have HZ := Lib.hid hz
  have HM0 := Lib.hid hm0
  obtain ⟨a, c, rfl, hl1, hl2⟩ := hsl.shape
  rw [maxLen_eq] at hl2
  obtain ⟨n, hn⟩ : ∃ n, n = l.length := ⟨_, rfl⟩
  have hn12 : n ≤ 12 := by rw [hn]; exact hz.len
  rw [← hn] at hl1 HSL ⊢
  have HN := Lib.hid hn
  obtain ⟨w1, hmk1, hrow1, hb1⟩ := mk_bools w n (by omega)
  obtain ⟨w2, hmk2, hrow2, hb2⟩ := mk_bools w1 n (by omega)
  obtain ⟨A, hA⟩ : ∃ A, A = w.heap.size := ⟨_, rfl⟩
  obtain ⟨B, hB⟩ : ∃ B, B = w1.heap.size := ⟨_, rfl⟩
  obtain ⟨C, hC⟩ : ∃ C, C = w2.heap.size := ⟨_, rfl⟩
  have hst : DT w n A B C (.slice none 0 0) (tb n []) (tb n []) [] w2 := by
    rw [tb_nil, hA, hB, hC]
    refine ⟨hb1.trans (hb2.mono hb1.size), ⟨Nat.le_refl _, ?_, ?_, Nat.le_refl _⟩, hrow1.below hb2, hrow2, NatRow.nil _ _⟩
    · by_cases h0 : n = 0
      · subst h0
        rcases hrow1.2 with ⟨e, -⟩ | ⟨g, cap, cur, e, hg, hgb, -⟩
        · cases e
        · obtain rfl : w.heap.size = g := by injection e with e; injection e with e; injection e
          exact (Array.getElem?_eq_some_iff.1 hgb).1
      · obtain ⟨b, e, h1, h2⟩ := ownsRow_some (n := n) (by have h := hrow1; unfold BlRow at h; rw [List.length_replicate] at h; exact h) (by omega)
        obtain rfl : w.heap.size = b := by injection e with e; injection e
        exact h2
    · by_cases h0 : n = 0
      · subst h0
        rcases hrow2.2 with ⟨e, -⟩ | ⟨g, cap, cur, e, hg, hgb, -⟩
        · cases e
        · obtain rfl : w1.heap.size = g := by injection e with e; injection e with e; injection e
          exact (Array.getElem?_eq_some_iff.1 hgb).1
      · obtain ⟨b, e, h1, h2⟩ := ownsRow_some (n := n) (by have h := hrow2; unfold BlRow at h; rw [List.length_replicate] at h; exact h) (by omega)
        obtain rfl : w1.heap.size = b := by injection e with e; injection e
        exact h2
  rw [← hA] at hmk1
  rw [← hB] at hmk2
  have HST := Lib.hid hst
  have HAW := Lib.hid hA
  clear hsl hz hn hm0 hst hrow1 hrow2 hb1 hb2 hA hB hC
  go_enter Try.func14, Try.ntmps14
  go_wp2_with fail
  clear hmk1 hmk2
  have E0 : IntKind.i64.wrap (2 * (n : Int)) = 2 * (n : Int) := by rw [IntKind.wrap_i64]; omega
  go_loopg [7, 10, 2] (2 * n + 1) (fun g vo st mo wr => ∃ (k : Nat) (s : TS) (oa : Option Addr) (oc : Nat), g = 2 * n + 1 - k ∧ st = .int .i64 k ∧ vo = .slice oa s.taken.length oc ∧ mo = .int .i64 s.most ∧ DT w n A B C vo (tb n s.taken) (tb n s.passed) s.taken wr ∧ TInv l thr m0 s ∧ leftS n s + k ≤ 2 * n)
  case atStart => exact ⟨0, ⟨[], [], m0⟩, none, 0, rfl, rfl, rfl, rfl, HST.out, ⟨Inv.start l m0, fun i hi => by simp at hi, List.nodup_nil, ⟨HM0.out.1, Int.le_refl _⟩, rfl⟩, by rw [leftS_start]; omega⟩
  case round =>
    clear HST
    rename World => wo
    obtain ⟨k, s, oa, oc, hgk, rfl, rfl, rfl, hst, hti, hlk⟩ := hrel
    have HGK := Lib.hid hgk
    have HST := Lib.hid hst
    have HTI := Lib.hid hti
    have HLK := Lib.hid hlk
    have HTL := Lib.hid (show s.taken.length ≤ n ∧ s.passed.length ≤ n by have h1 := nodup_len hti.inv.nodup hti.inv.lt; have h2 := nodup_len hti.pnd hti.plt; have := HN.out; omega)
    have hk2 : (k : Int) ≤ 2 * (n : Int) := by omega
    obtain ⟨tl, htl⟩ : ∃ tl, tl = s.taken.length := ⟨_, rfl⟩
    obtain ⟨mo, hmo⟩ : ∃ mo, mo = s.most := ⟨_, rfl⟩
    rw [← htl] at HST HTL ⊢
    rw [← hmo]
    have HTLE := Lib.hid htl
    have HMOE := Lib.hid hmo
    clear hgk hst hti hlk htl hmo
    go_wp2_with fail
    go_loopg [11, 12, 13, 14] n (fun g va vf vs i wr => ∃ (j : Nat) (b : Bst), g = n - j ∧ j ≤ n ∧ i = .int .i64 j ∧ va = .int .i64 (atI b.at_) ∧ vf = .int .i64 b.fee ∧ vs = .int .i64 b.size ∧ b = bestL (scoreOf l s.taken) (skipOf s) j ∧ Below wo.heap.size wo wr)
    case atStart => exact ⟨0, ⟨none, 0, 0⟩, rfl, by omega, rfl, rfl, rfl, rfl, rfl, Below.refl _ _⟩
    case round =>
      rename World => wp
      obtain ⟨j, b, hgj, hj, rfl, rfl, rfl, rfl, hbb, hb⟩ := hrel
      have HGJ := Lib.hid hgj
      have HB := Lib.hid hb
      have HBB := Lib.hid hbb
      clear hgj hb hbb
      have HDP := Lib.hid (HST.out.below HB.out)
      by_cases hlt : j < n
      · have hjl : j < l.length := by rw [← HN.out]; exact hlt
        obtain ⟨t1, ht1⟩ : ∃ t, t = s.taken.contains j := ⟨_, rfl⟩
        obtain ⟨t2, ht2⟩ : ∃ t, t = s.passed.contains j := ⟨_, rfl⟩
        have c0 : wp.cell? ⟨A, j, none⟩ = some (.bool t1) := by
          obtain ⟨b, h1, h2⟩ := HDP.out.tk.get (i := j) (by rw [tb_len]; exact hlt)
          rw [tb_at hlt] at h1
          rw [h2, ← Option.some.inj h1, ht1]
        have c1 : wp.cell? ⟨B, j, none⟩ = some (.bool t2) := by
          obtain ⟨b, h1, h2⟩ := HDP.out.ps.get (i := j) (by rw [tb_len]; exact hlt)
          rw [tb_at hlt] at h1
          rw [h2, ← Option.some.inj h1, ht2]
        have HSK := Lib.hid (show skipOf s j = (t1 || t2) by unfold skipOf; rw [ht1, ht2])
        have HJL := Lib.hid hjl
        clear ht1 ht2 hjl
        have hskip : ∀ t : Bool, (t1 || t2) = true → b = bestL (scoreOf l s.taken) (skipOf s) (j + 1) := fun _ h => by
          rw [best_succ, ← HBB.out]; unfold bStep; rw [if_pos (HSK.out.trans h)]
        cases t1
        rotate_left
        · have HNX := Lib.hid (hskip true rfl)
          clear hskip
          go_wp2_with fail
          go_roundg (n - (j + 1))
          case measure => have := HGJ.out; omega
          case rel => exact ⟨j + 1, b, rfl, by omega, by go_num, rfl, rfl, rfl, HNX.out, HB.out⟩
        cases t2
        rotate_left
        · have HNX := Lib.hid (hskip true rfl)
          clear hskip
          go_wp2_with fail
          go_roundg (n - (j + 1))
          case measure => have := HGJ.out; omega
          case rel => exact ⟨j + 1, b, rfl, by omega, by go_num, rfl, rfl, rfl, HNX.out, HB.out⟩
        clear hskip
        have HBU := Lib.hid (bundle21_any _ _ l j (tb n s.taken) wp (HSL.out.below HDP.out.bel) HDP.out.tk.sl HJL.out (by have := HN.out; omega) (by rw [tb_len]; exact HN.out))
        go_wp2_with fail
        refine HBU.out.mono ?_
        rintro e w3 ⟨v, rfl, hv, hxc⟩
        have hins := insOf_bund (l := l) (i := j) (n := n) (ps := s.taken) HN.out
        have hil : ((List.range l.length).map fun k => reachB l j k && !((tb n s.taken).getD k false)).length = n := by rw [List.length_map, List.length_range]; exact HN.out.symm
        generalize ((List.range l.length).map fun k => reachB l j k && !((tb n s.taken).getD k false)) = inb at *
        obtain ⟨va, vc, hve, -, -⟩ := ownsRow_shape hv
        rw [hil] at hve
        subst hve
        have HB3 := Lib.hid (HB.out.trans (hxc.mono HB.out.size))
        have hsu := sum14_any _ _ l inb w3 (HSL.out.below (HDP.out.bel.trans (hxc.mono HDP.out.bel.size))) hv.sl HZ.out (by rw [hil]; exact HN.out)
        rw [hins, show feeL l (bundL l j fun k => s.taken.contains k) = scoreOf l s.taken j from rfl] at hsu
        have HST := Lib.hid (best_succ (scoreOf l s.taken) (skipOf s) j)
        have HSN := Lib.hid (show bStep (scoreOf l s.taken) (skipOf s) b j = if b.at_ = none ∨ 0 < cmpR (scoreOf l s.taken j).1 (scoreOf l s.taken j).2 b.fee b.size then ⟨some j, (scoreOf l s.taken j).1, (scoreOf l s.taken j).2⟩ else b by unfold bStep; rw [HSK.out, if_neg (by decide)])
        obtain ⟨p, hp⟩ : ∃ p, p = scoreOf l s.taken j := ⟨_, rfl⟩
        rw [← hp] at hsu
        obtain ⟨pf, ps⟩ := p
        have HPP := Lib.hid hp
        have HSU := Lib.hid hsu
        clear hp hsu hil hins hv hxc HBU c0 c1
        go_wp2_with fail
        refine HSU.out.mono ?_
        rintro e w4 ⟨rfl, hxc⟩
        have HB4 := Lib.hid (HB3.out.trans (hxc.mono HB3.out.size))
        clear hxc HSU
        dsimp only
        obtain ⟨ba, bf, bs⟩ := b
        have HCM := Lib.hid (rcompare_any pf ps bf bs w4)
        obtain ⟨cm, hcm⟩ : ∃ cm, cm = cmpR pf ps bf bs := ⟨_, rfl⟩
        have HCE := Lib.hid hcm
        go_wp2_with fail
        refine HCM.out.mono ?_
        rintro e w5 ⟨rfl, rfl⟩
        rw [← hcm]
        clear hcm HCM
        cases ba with
        | none =>
          have HNX := Lib.hid (show (⟨some j, pf, ps⟩ : Bst) = bestL (scoreOf l s.taken) (skipOf s) (j + 1) by rw [HST.out, ← HBB.out, HSN.out, if_pos (.inl rfl), ← HPP.out])
          have hat : atI none = -1 := rfl
          simp only [hat]
          go_wp2_with fail
          go_roundg (n - (j + 1))
          case measure => have := HGJ.out; omega
          case rel => exact ⟨j + 1, _, rfl, by omega, by go_num, rfl, rfl, rfl, HNX.out, HB4.out⟩
        | some q =>
          have hat : atI (some q) = (q : Int) := rfl
          have hq : ¬ ((q : Int) < 0) := by omega
          simp only [hat]
          by_cases h0 : 0 < cm
          · have HNX := Lib.hid (show (⟨some j, pf, ps⟩ : Bst) = bestL (scoreOf l s.taken) (skipOf s) (j + 1) by rw [HST.out, ← HBB.out, HSN.out, if_pos (.inr (by rw [← HPP.out, ← HCE.out]; exact h0)), ← HPP.out])
            go_wp2_with fail
            go_roundg (n - (j + 1))
            case measure => have := HGJ.out; omega
            case rel => exact ⟨j + 1, _, rfl, by omega, by go_num, rfl, rfl, rfl, HNX.out, HB4.out⟩
          · have HNX := Lib.hid (show (⟨some q, bf, bs⟩ : Bst) = bestL (scoreOf l s.taken) (skipOf s) (j + 1) by rw [HST.out, ← HBB.out, HSN.out, if_neg (by rintro (h | h); cases h; rw [← HPP.out, ← HCE.out] at h; exact h0 h)])
            go_wp2_with fail
            go_roundg (n - (j + 1))
            case measure => have := HGJ.out; omega
            case rel => exact ⟨j + 1, _, rfl, by omega, by go_num, rfl, rfl, rfl, HNX.out, HB4.out⟩
      · obtain rfl : n = j := by omega
        have HBO := Lib.hid (show b = bestOf l s by rw [HBB.out, HN.out]; rfl)
        clear HST HB HBB
        obtain ⟨ba, bf, bs⟩ := b
        cases ba with
        | none =>
          have hat : atI none = -1 := rfl
          simp only [hat]
          have HEND := Lib.hid (show tmplL l thr m0 = s.taken by
            unfold tmplL
            rw [← HTI.out.run, tEnd_none (by unfold tStep; rw [← HBO.out])])
          go_wp2_with fail
          go_ret
          exact ⟨_, rfl, by rw [HEND.out, HTLE.out]; exact ownsRow_base (HTLE.out ▸ HDP.out.od) (by have := HDP.out.ab; omega), HDP.out.bel⟩
        | some i =>
          have hat : atI (some i) = (i : Int) := rfl
          have hq : ¬ ((i : Int) < 0) := by omega
          simp only [hat]
          have HI := Lib.hid (best_some (sc := scoreOf l s.taken) (skip := skipOf s) (n := l.length) (congrArg Bst.at_ HBO.out).symm)
          have HFE := Lib.hid (show bf = (scoreOf l s.taken i).1 from (congrArg Bst.fee HBO.out).trans HI.out.2.2.1)
          have HSE := Lib.hid (show bs = (scoreOf l s.taken i).2 from (congrArg Bst.size HBO.out).trans HI.out.2.2.2)
          have HTS := Lib.hid (show tStep l thr s = if lowB bf bs thr = true then none else if badB s bs (someOf l s i) = true then some ⟨s.taken, s.passed ++ [i], s.most⟩ else some ⟨s.taken ++ someOf l s i, s.passed, s.most - bs⟩ by
            unfold tStep
            rw [← HBO.out])
          have HBL := Lib.hid (below21_any bf bs thr wp)
          obtain ⟨lo, hlo⟩ : ∃ lo, lo = lowB bf bs thr := ⟨_, rfl⟩
          have hts := HTS.out
          rw [← hlo] at hts
          have HTS := Lib.hid hts
          go_wp2_with fail
          refine HBL.out.mono ?_
          rintro e w5 ⟨rfl, rfl⟩
          rw [← hlo]
          clear hlo hts HBL
          cases lo
          rotate_left
          · have HEND := Lib.hid (show tmplL l thr m0 = s.taken by
              unfold tmplL
              rw [← HTI.out.run, tEnd_none (by rw [HTS.out, if_pos rfl])])
            go_wp2_with fail
            go_ret
            exact ⟨_, rfl, by rw [HEND.out, HTLE.out]; exact ownsRow_base (HTLE.out ▸ HDP.out.od) (by have := HDP.out.ab; omega), HDP.out.bel⟩
          have hts := HTS.out
          rw [if_neg (by decide)] at hts
          have HTS := Lib.hid hts
          clear hts
          have HBU := Lib.hid (bundle21_any _ _ l i (tb n s.taken) wp (HSL.out.below HDP.out.bel) HDP.out.tk.sl HI.out.1 (by have := HN.out; omega) (by rw [tb_len]; exact HN.out))
          go_wp2_with fail
          refine HBU.out.mono ?_
          rintro e w3 ⟨v, rfl, hv, hxc⟩
          have hins := insOf_bund (l := l) (i := i) (n := n) (ps := s.taken) HN.out
          have hil : ((List.range l.length).map fun k => reachB l i k && !((tb n s.taken).getD k false)).length = n := by rw [List.length_map, List.length_range]; exact HN.out.symm
          generalize ((List.range l.length).map fun k => reachB l i k && !((tb n s.taken).getD k false)) = inb at *
          obtain ⟨va, vc, hve, -, -⟩ := ownsRow_shape hv
          rw [hil] at hve
          subst hve
          have HD3 := Lib.hid (HDP.out.below hxc)
          have HV := Lib.hid hv
          have HINS := Lib.hid (show insOf inb n = someOf l s i by have h := hins; rw [← HN.out] at h; exact h)
          have HOV := Lib.hid (show ∀ b, (Value.slice oa tl oc).ownBlock = some b → (Value.slice va n vc).ownBlock ≠ some b from fun b h1 h2 => by have := (HDP.out.od.lt b h1).2; have := (hv.lt b h2).1; omega)
          have HAP := Lib.hid (show A < wp.heap.size by have := HDP.out.ab; omega)
          clear hins hil hv hxc HBU HDP
          obtain ⟨b0, hb0⟩ : ∃ b0, b0 = decide (mo < bs) := ⟨_, rfl⟩
          have HB0 := Lib.hid hb0
          go_upto_region 28 with fail
          rw [← hb0]
          clear hb0
          go_wp2_with fail
          go_loopg [21, 22] n (fun g vb j wr => ∃ r : Nat, g = n - r ∧ r ≤ n ∧ j = .int .i64 r ∧ vb = .bool (b0 || (insOf inb r).any fun x => s.passed.contains x) ∧ w3 = wr)
          case atStart => exact ⟨0, rfl, by omega, rfl, by simp [insOf], rfl⟩
          case round =>
            obtain ⟨r, hgr, hr, rfl, rfl, rfl⟩ := hrel
            have HGR := Lib.hid hgr
            clear hgr
            obtain ⟨bk, hbk⟩ : ∃ bk, bk = (b0 || (insOf inb r).any fun x => s.passed.contains x) := ⟨_, rfl⟩
            rw [← hbk]
            have HBK := Lib.hid hbk
            clear hbk
            by_cases hrn : r < n
            · obtain ⟨vb, vo, y, hve, hy, d0⟩ := HV.out.sl.bool hrn
              subst hve
              obtain ⟨pk, hpk⟩ : ∃ t, t = s.passed.contains r := ⟨_, rfl⟩
              have c1 : w3.cell? ⟨B, r, none⟩ = some (.bool pk) := by
                obtain ⟨b, h1, h2⟩ := HD3.out.ps.get (i := r) (by rw [tb_len]; exact hrn)
                rw [tb_at hrn] at h1
                rw [h2, ← Option.some.inj h1, hpk]
              have HNX := Lib.hid (show (bk || (y && pk)) = (b0 || (insOf inb (r + 1)).any fun x => s.passed.contains x) by
                rw [insOf_succ, List.any_append, ← Bool.or_assoc, ← HBK.out, List.getD_eq_getElem?_getD, hy]
                cases y
                · simp
                · simp [hpk])
              clear hy hpk
              cases bk
              · cases y
                · go_wp2_with fail
                  go_roundg (n - (r + 1))
                  case measure => have := HGR.out; omega
                  case rel => exact ⟨r + 1, rfl, by omega, by go_num, by rw [← HNX.out] <;> rfl, rfl⟩
                · cases pk
                  · go_wp2_with fail
                    go_roundg (n - (r + 1))
                    case measure => have := HGR.out; omega
                    case rel => exact ⟨r + 1, rfl, by omega, by go_num, by rw [← HNX.out] <;> rfl, rfl⟩
                  · go_wp2_with fail
                    go_roundg (n - (r + 1))
                    case measure => have := HGR.out; omega
                    case rel => exact ⟨r + 1, rfl, by omega, by go_num, by rw [← HNX.out] <;> rfl, rfl⟩
              · go_wp2_with fail
                go_roundg (n - (r + 1))
                case measure => have := HGR.out; omega
                case rel => exact ⟨r + 1, rfl, by omega, by go_num, by rw [← HNX.out] <;> rfl, rfl⟩
            · obtain rfl : n = r := by omega
              have HBD := Lib.hid (show bk = badB s bs (someOf l s i) by rw [HBK.out, HINS.out, HB0.out, HMOE.out]; rfl)
              have hts := HTS.out
              rw [← HBD.out] at hts
              have hin : i < n := by rw [HN.out]; exact HI.out.1
              cases bk
              · rw [if_neg (by decide)] at hts
                have HTT := Lib.hid (HTI.out.step HZ.out hts)
                have HLF := Lib.hid (tStep_left hts)
                have hsi : 0 ≤ bs ∧ bs ≤ 24000 := by
                  have h1 := feeL_bd HZ.out (ps := someOf l s i) fun k hk => (mem_bundL.1 hk).1
                  have h2 := bund_len l i (fun k => s.taken.contains k)
                  have h3 : bs = (feeL l (someOf l s i)).2 := HSE.out
                  have h4 : (someOf l s i).length ≤ l.length := h2
                  have := HN.out
                  omega
                have hmsi : bs ≤ mo := by
                  have h := HBD.out.symm
                  unfold badB at h
                  rw [Bool.or_eq_false_iff, ← HMOE.out] at h
                  have := of_decide_eq_false h.1
                  omega
                have E : IntKind.i64.wrap (mo - bs) = mo - bs := by rw [IntKind.wrap_i64]; have := HM0.out; have := HTI.out.most; rw [← HMOE.out] at this; omega
                have HINS2 := Lib.hid HINS.out
                have HTN := Lib.hid (show (s.taken ++ insOf inb n).length ≤ 24 by rw [HINS.out, List.length_append]; have h2 := bund_len l i (fun k => s.taken.contains k); have h4 : (someOf l s i).length ≤ l.length := h2; have := HN.out; have := HTL.out; have := HTLE.out; omega)
                clear hts hsi hmsi
                go_wp2_with fail
                go_loopg [7, 23] n (fun g vo j wr => ∃ (r : Nat) (oa2 : Option Addr) (oc2 : Nat), g = n - r ∧ r ≤ n ∧ j = .int .i64 r ∧ vo = .slice oa2 (s.taken ++ insOf inb r).length oc2 ∧ DT w n A B C vo (tb n (s.taken ++ insOf inb r)) (tb n s.passed) (s.taken ++ insOf inb r) wr ∧ BlRow wp.heap.size wr (.slice va n vc) inb ∧ (∀ b, vo.ownBlock = some b → (Value.slice va n vc).ownBlock ≠ some b))
                case atStart => exact ⟨0, oa, oc, rfl, by omega, rfl, by rw [HTLE.out]; simp [insOf], by simpa [insOf] using HD3.out, HV.out, HOV.out⟩
                case round =>
                  clear HD3 HV HOV HINS
                  rename World => wq
                  obtain ⟨r, oa2, oc2, hgr, hr, rfl, rfl, hd, hv, hov⟩ := hrel
                  have HGR := Lib.hid hgr
                  have HD := Lib.hid hd
                  have HV := Lib.hid hv
                  have HOV := Lib.hid hov
                  have HNX := Lib.hid (insOf_succ inb r)
                  obtain ⟨ql, hql⟩ : ∃ ql, ql = (s.taken ++ insOf inb r).length := ⟨_, rfl⟩
                  rw [← hql] at HD HOV ⊢
                  have HQL := Lib.hid hql
                  clear hgr hd hv hov hql
                  by_cases hrn : r < n
                  · obtain ⟨vb, vo, y, hve, hy, d0⟩ := HV.out.sl.bool hrn
                    have hgd : inb.getD r false = y := by rw [List.getD_eq_getElem?_getD, hy]; rfl
                    have HGD := Lib.hid hgd
                    subst hve
                    clear hy hgd
                    cases y
                    · have HE := Lib.hid (show insOf inb (r + 1) = insOf inb r by rw [HNX.out, HGD.out, if_neg (by decide), List.append_nil])
                      go_wp2_with fail
                      go_roundg (n - (r + 1))
                      case measure => have := HGR.out; omega
                      case rel => exact ⟨r + 1, oa2, oc2, rfl, by omega, by go_num, by rw [HE.out, HQL.out], by rw [HE.out]; exact HD.out, HV.out, HOV.out⟩
                    · have HE := Lib.hid (show s.taken ++ insOf inb (r + 1) = s.taken ++ insOf inb r ++ [r] by rw [HNX.out, HGD.out, if_pos rfl, List.append_assoc])
                      have hrl : r < (tb n (s.taken ++ insOf inb r)).length := by rw [tb_len]; exact hrn
                      obtain ⟨t0, -, c0⟩ := HD.out.tk.get hrl
                      have f0 := HD.out.tk.free r
                      have hput := HD.out.putT hrl true
                      rw [← tb_snoc hrn] at hput
                      have HV2 := Lib.hid (show BlRow wp.heap.size (wq.setCell ⟨A, r, none⟩ (.bool true)) (.slice (some ⟨vb, vo, none⟩) n vc) inb from ownsRow_other HV.out _ _ (fun e => by have := (HV.out.lt _ e).1; have := HAP.out; dsimp only at *; omega))
                      have HPUT := Lib.hid hput
                      clear hput hrl
                      go_upto_region 39 with fail
                      clear d0 c0 f0
                      generalize wq.setCell ⟨A, r, none⟩ (.bool true) = wz at *
                      obtain ⟨a8, c8, wd, hrun, hd8, hk8, ho8⟩ := HPUT.out.app r (by have := insOf_len inb r; have := HTL.out; have := HTLE.out; rw [List.length_append]; omega)
                      rw [← HQL.out] at hrun hd8 ho8
                      have HR := Lib.hid hrun
                      have HD8 := Lib.hid hd8
                      have HV8 := Lib.hid (show BlRow wp.heap.size wd (.slice (some ⟨vb, vo, none⟩) n vc) inb from ownsRow_of_block HV2.out fun b hb => hk8 b (HV2.out.lt b hb).2 (fun e => HOV.out b e hb))
                      have HO8 := Lib.hid (show ∀ b, (Value.slice a8 (ql + 1) c8).ownBlock = some b → (Value.slice (some ⟨vb, vo, none⟩) n vc).ownBlock ≠ some b from fun b h1 h2 => by
                        rcases ho8 b h1 with h | h
                        · exact HOV.out b h h2
                        · have := (HV2.out.lt b h2).2; omega)
                      clear hrun hd8 hk8 ho8
                      go_wp2_with (at_builtin; refine wpList_append_run rfl (.tmp 129) (.tmp 131) 23 23 rfl rfl rfl HR.out ?_)
                      go_roundg (n - (r + 1))
                      case measure => have := HGR.out; omega
                      case rel => exact ⟨r + 1, a8, c8, rfl, by omega, by go_num, by rw [HE.out, List.length_append, ← HQL.out]; rfl, by rw [HE.out]; exact HD8.out, HV8.out, HO8.out⟩
                  · obtain rfl : n = r := by omega
                    go_wp2_with fail
                    go_roundg (2 * n + 1 - (k + 1))
                    case measure => have := HGK.out; have := HLK.out; omega
                    case rel => exact ⟨k + 1, ⟨s.taken ++ someOf l s i, s.passed, s.most - bs⟩, oa2, oc2, rfl, by go_num, by rw [HQL.out, HINS2.out], by rw [HMOE.out], by have h := HD.out; rw [HINS2.out] at h; exact h, HTT.out, by have := HLF.out; have := HLK.out; simp only [← HN.out] at *; omega⟩
              · rw [if_pos rfl] at hts
                have HTT := Lib.hid (HTI.out.step HZ.out hts)
                have HLF := Lib.hid (tStep_left hts)
                obtain ⟨pk, -, c1⟩ := HD3.out.ps.get (i := i) (by rw [tb_len]; exact hin)
                have f1 := HD3.out.ps.free i
                have hput := HD3.out.putP (i := i) (by rw [tb_len]; exact hin) true
                rw [← tb_snoc hin] at hput
                have HPUT := Lib.hid hput
                clear hts hput
                go_wp2_with fail
                go_roundg (2 * n + 1 - (k + 1))
                case measure => have := HGK.out; have := HLK.out; omega
                case rel => exact ⟨k + 1, ⟨s.taken, s.passed ++ [i], s.most⟩, oa, oc, rfl, by go_num, by rw [HTLE.out], by rw [HMOE.out], HPUT.out, HTT.out, by have := HLF.out; have := HLK.out; simp only [← HN.out] at *; omega⟩
end Go.Proofs.Ytfkcldaogfengaa
end

section
/-
  Marks, places and counts of the miner's laws, as plain data. Conditions: none beyond each theorem's own.
-/
namespace Go.Proofs.Ytfkcldaogfengaa
open Go.RowKit Go.BigFrame
set_option linter.unusedVariables false
set_option linter.unusedSimpArgs false

/-! ### MinerScores -/
def zb (n : Nat) (zs : List Int) : List Bool := (List.range n).map fun k => zs.contains (natI k)
theorem zb_len (n : Nat) (zs : List Int) : (zb n zs).length = n := by unfold zb; rw [List.length_map, List.length_range]
theorem zb_nil (n : Nat) : zb n [] = List.replicate n false := by
  unfold zb
  refine List.ext_getElem? fun k => ?_
  rw [List.getElem?_map, List.getElem?_replicate]
  by_cases hk : k < n
  · rw [List.getElem?_range hk, if_pos hk]; rfl
  · rw [List.getElem?_eq_none (by simpa using hk), if_neg hk]; rfl
theorem zb_at {n k : Nat} {zs : List Int} (hk : k < n) : (zb n zs)[k]? = some (zs.contains (natI k)) := by
  unfold zb
  rw [List.getElem?_map, List.getElem?_range hk]
  rfl
theorem zb_put {n i : Nat} {zs : List Int} (hi : i < n) : zb n (zs ++ [natI i]) = (zb n zs).set i true := by
  refine List.ext_getElem? fun k => ?_
  by_cases hk : k < n
  · rw [zb_at hk]
    by_cases e : i = k
    · subst e
      rw [List.getElem?_set_self (by rw [zb_len]; exact hi)]
      simp
    · rw [List.getElem?_set_ne e, zb_at hk]
      refine congrArg some ?_
      rw [Bool.eq_iff_iff]
      simp [List.contains_iff_mem]
      exact fun h => absurd (natI_inj h).symm e
  · rw [List.getElem?_eq_none (by rw [zb_len]; omega), List.getElem?_eq_none (by rw [List.length_set, zb_len]; omega)]
theorem zb_skip {n : Nat} {x : Int} {zs : List Int} (h : ¬ (0 ≤ x ∧ x < (n : Int))) : zb n (zs ++ [x]) = zb n zs := by
  refine List.ext_getElem? fun k => ?_
  by_cases hk : k < n
  · rw [zb_at hk, zb_at hk]
    refine congrArg some ?_
    rw [Bool.eq_iff_iff]
    simp [List.contains_iff_mem]
    intro e
    exact absurd ⟨by rw [← e]; unfold natI; omega, by rw [← e]; unfold natI; omega⟩ h
  · rw [List.getElem?_eq_none (by rw [zb_len]; omega), List.getElem?_eq_none (by rw [zb_len]; omega)]
theorem zb_score {l : List PE} {i n : Nat} {zs : List Int} (hn : n = l.length) : feeL l (insOf ((List.range l.length).map fun k => reachB l i k && !((zb n zs).getD k false)) l.length) = scoreZ l zs i := by
  subst hn
  unfold scoreZ
  congr 1
  unfold insOf bundL
  refine List.filter_congr fun k hk => ?_
  have hk' := List.mem_range.1 hk
  rw [List.getD_eq_getElem?_getD, List.getElem?_map, List.getElem?_range hk']
  simp only [Option.map_some, Option.getD_some]
  rw [List.getD_eq_getElem?_getD, zb_at hk']
  rfl

/-! ### places found by their transactions -/
theorem txI_get {l : List PE} {i : Nat} (hi : i < l.length) : ∃ x, l[i]? = some x ∧ txI l i = x.tx := ⟨l[i], List.getElem?_eq_getElem hi, txI_at (List.getElem?_eq_getElem hi)⟩
/-- The last of the first n places whose transaction is that of place p. -/
noncomputable def lastOf (l : List PE) (t : PTx) : Nat → Int
  | 0 => -1
  | n + 1 => if sameTx (txI l n) t = true then (n : Int) else lastOf l t n
theorem Listed.txI_inj {l : List PE} (h : Listed l) {i j : Nat} (hi : i < l.length) (hj : j < l.length) (e : txI l i = txI l j) : i = j := by
  obtain ⟨x, hx, ex⟩ := txI_get hi
  obtain ⟨y, hy, ey⟩ := txI_get hj
  exact h.unlike hx hy (by rw [← ex, ← ey, e])
theorem Listed.last {l : List PE} (h : Listed l) {p : Nat} (hp : p < l.length) : ∀ {n : Nat}, n ≤ l.length → lastOf l (txI l p) n = if p < n then (p : Int) else -1
  | 0, _ => rfl
  | n + 1, hn => by
    rw [lastOf, h.last hp (by omega)]
    by_cases e : txI l n = txI l p
    · have := h.txI_inj (by omega) hp e
      subst this
      rw [if_pos (same_yes rfl), if_pos (by omega)]
    · have hne : n ≠ p := fun e2 => e (by rw [e2])
      rw [same_no e, if_neg (by decide)]
      by_cases hlt : p < n
      · rw [if_pos hlt, if_pos (by omega)]
      · rw [if_neg hlt, if_neg (by omega)]

/-! ### MinerRises: those that are taken, in the list's order -/
def risen (ps : List Nat) (n : Nat) : List Nat := (List.range n).filter fun i => ps.contains i
theorem risen_succ (ps : List Nat) (n : Nat) : risen ps (n + 1) = risen ps n ++ if ps.contains n = true then [n] else [] := by
  unfold risen
  rw [List.range_succ, List.filter_append]
  congr 1
  simp only [List.filter_cons, List.filter_nil]
theorem risen_len {ps : List Nat} {n : Nat} (hnd : ps.Nodup) (hl : ∀ i ∈ ps, i < n) : (risen ps n).length = ps.length := by
  refine List.Perm.length_eq ((List.perm_ext_iff_of_nodup (List.nodup_range.sublist List.filter_sublist) hnd).2 fun i => ?_)
  rw [List.mem_filter, List.mem_range]
  constructor
  · rintro ⟨-, h⟩; simpa using h
  · intro h; exact ⟨hl i h, by simpa using h⟩
theorem risen_le (ps : List Nat) (n : Nat) : (risen ps n).length ≤ n := by
  have := List.length_filter_le (fun i => ps.contains i) (List.range n)
  rwa [List.length_range] at this
theorem risen_mem {ps : List Nat} {n i : Nat} : i ∈ risen ps n ↔ i < n ∧ i ∈ ps := by
  unfold risen
  rw [List.mem_filter, List.mem_range]
  simp
theorem risen_score {l : List PE} {ps : List Nat} (hl : ∀ i ∈ ps, i < l.length) (i : Nat) : scoreZ l ((risen ps l.length).map natI) i = scoreOf l ps i := by
  rw [scoreZ_nat]
  unfold scoreOf
  congr 2
  funext k
  rw [Bool.eq_iff_iff, List.contains_iff_mem, List.contains_iff_mem, risen_mem]
  exact ⟨fun h => h.2, fun h => ⟨hl k h, h⟩⟩
end Go.Proofs.Ytfkcldaogfengaa
end

section
/-
  MinerScores: the walk. Conditions: none beyond the arguments' own.
-/
namespace Go.Proofs.Ytfkcldaogfengaa
open Go.RowKit Go.BigFrame Go.ChangeShapes Go.WideShapes
set_option linter.unusedVariables false
set_option linter.unusedSimpArgs false

set_option maxRecDepth 100000 in
theorem open_i64s {H : Type} {enc : TypeId × Value → H} {w : World} {v : Value} {d : DataW H} {ps : List MemPlace} (hv : Value.okWide Try.prog w .any 0 23 v) (h : DataW.Trod enc Try.prog w 0 (fun _ => true) true 23 v d ps) :
    ∃ l : List Int, IntsAt w v l := by
  obtain ⟨a, n, c, rfl⟩ := Go.WideShapes.okWide_slice Try.underlying23 hv
  obtain ⟨fuel, hf⟩ := h
  obtain ⟨l, u, e, hu⟩ := rp_of_slice (R := rpInt .i64) Try.underlying23 (by kernel_rfl) (by decide) (fun _ _ _ => rp_of_int Try.underlying3) hf
  have e' : Value.slice a n c = u := by simpa [Value.cells] using e
  exact ⟨l, e' ▸ hu⟩
theorem smalls_ok {w : World} {v : Value} {zs : List PSm} (h : SlAt rpSm w v zs) : ∀ z ∈ zs, z.Ok0 := by
  obtain ⟨a, c, rfl, -, -⟩ := h.shape
  intro z hz
  obtain ⟨i, hi, rfl⟩ := List.getElem_of_mem hz
  obtain ⟨_, _, x, _, _, _, _, hx, hok, -⟩ := h.sm hi
  rw [List.getElem?_eq_getElem hi] at hx
  rw [Option.some.inj hx]
  exact hok
theorem ten_call {w : World} {sl : Value} {zs : List PSm} (h : SlAt rpSm w sl zs) : Calls Try.prog 8 #[sl, .int .i64 10] w (ListP (listL (zs.take 10)) w) := listed21_any sl zs 10 w h (by decide)
theorem ten_len (zs : List PSm) : (listL (zs.take 10)).length ≤ 10 := by
  have := listL_len (zs.take 10)
  rw [List.length_take] at this
  omega
theorem ten_listed {w : World} {v : Value} {zs : List PSm} (h : SlAt rpSm w v zs) : Listed (listL (zs.take 10)) := listL_listed fun z hz => smalls_ok h z (List.mem_of_mem_take hz)
theorem snoc_take {α : Type} {l : List α} {k : Nat} {x : α} (h : l[k]? = some x) : l.take (k + 1) = l.take k ++ [x] := by
  rw [List.take_add_one, h]
  rfl
set_option maxRecDepth 100000 in
set_option maxHeartbeats 4000000 in
theorem minerScores_walk (v0 : Value) (zs : List PSm) (at_ : Int) (v2 : Value) (bs : List Int) (w : World) (h0 : SlAt rpSm w v0 zs) (h1 : (Lit.int .i64 at_).wf = true) (h2 : IntsAt w v2 bs) :
    Calls Try.prog 3 #[v0, .int .i64 at_, v2] w (BIs true w) := by
  have HC := Lib.hid (ten_call h0)
  have HLI := Lib.hid (ten_listed h0)
  have HLE := Lib.hid (ten_len zs)
  generalize listL (zs.take 10) = l at *
  obtain ⟨a, c, rfl, -, -⟩ := h0.shape
  obtain ⟨ba, bc, rfl, hq1, hq2⟩ := SlAt.shape h2
  rw [maxLen_eq] at hq2
  obtain ⟨z0, hz0⟩ : ∃ z0, z0 = zs.length := ⟨_, rfl⟩
  obtain ⟨m, hm⟩ : ∃ m, m = bs.length := ⟨_, rfl⟩
  rw [← hz0] at HC ⊢
  rw [← hm] at hq1 h2 ⊢
  obtain ⟨mb, hmb⟩ : ∃ mb, mb = min m 12 := ⟨_, rfl⟩
  have hmin : min (m : Int) 12 = (mb : Int) := by omega
  have hmbm : mb ≤ m := by omega
  have hmb12 : mb ≤ 12 := by omega
  obtain ⟨cs, hcs⟩ : ∃ cs, cs = bs.take mb := ⟨_, rfl⟩
  have HCS := Lib.hid (hcs ▸ SlAt.cut h2 hmbm : IntsAt w (.slice ba mb bc) cs)
  have HCL := Lib.hid (show cs.length = mb by rw [hcs, List.length_take]; omega)
  have HAT := Lib.hid (wf_i64z h1)
  clear h0 h1 h2 hz0 hm hmb hcs
  go_enter Try.func3, Try.ntmps3
  go_wp2_with fail
  refine HC.out.mono ?_
  rintro e w1 ⟨v, rfl, hsl, hb⟩
  have HB1 := Lib.hid hb
  have HSL := Lib.hid hsl
  obtain ⟨la, lc, rfl, hl1, hl2⟩ := hsl.shape
  rw [maxLen_eq] at hl2
  obtain ⟨n, hn⟩ : ∃ n, n = l.length := ⟨_, rfl⟩
  have HN := Lib.hid hn
  have hn10 : n ≤ 10 := by have := HLE.out; omega
  rw [← hn] at hl1 HSL ⊢
  have HSZ := Lib.hid (HLI.out.sized (by have := HLE.out; omega))
  clear hn hsl hb HC
  obtain ⟨w2, hmk, hrow, hb2⟩ := mk_bools w1 n (by omega)
  have HST := Lib.hid (show BS w1 n (zb n (cs.take 0)) w2 by rw [List.take_zero, zb_nil]; exact ⟨hb2, hrow⟩)
  clear hrow hb2
  go_wp2_with fail
  clear hmk hmin
  obtain ⟨A, hA⟩ : ∃ A, A = w1.heap.size := ⟨_, rfl⟩
  rw [← hA]
  have HA := Lib.hid hA
  clear hA
  go_loopg [30] mb (fun g i wr => ∃ k : Nat, g = mb - k ∧ k ≤ mb ∧ i = .int .i64 k ∧ BS w1 n (zb n (cs.take k)) wr)
  case atStart => exact ⟨0, by omega, by omega, rfl, HST.out⟩
  case round =>
    clear HST
    rename World => wo
    obtain ⟨k, hgk, hk, rfl, hst⟩ := hrel
    have HGK := Lib.hid hgk
    have HST := Lib.hid hst
    have HB := Lib.hid (HB1.out.trans (hst.bel.mono HB1.out.size))
    clear hgk hst
    by_cases hlt : k < mb
    · obtain ⟨xb, xo, x, rfl, hx, d0⟩ := (HCS.out.below HB.out).cell hlt
      have HX := Lib.hid (snoc_take hx)
      clear hx
      by_cases hx0 : 0 ≤ x
      · obtain ⟨i, rfl⟩ : ∃ i : Nat, x = i := ⟨x.toNat, by omega⟩
        by_cases hxn : i < n
        · have hxn' : (i : Int) < (n : Int) := by omega
          obtain ⟨ob, -, c0⟩ := HST.out.row.get (i := i) (by rw [zb_len]; exact hxn)
          have f0 := HST.out.row.free i
          have HS2 := Lib.hid (HST.out.put (i := i) (by rw [zb_len]; exact hxn) true)
          rw [← HA.out] at c0 f0 HS2
          go_wp2_with fail
          go_roundg (mb - (k + 1))
          case measure => have := HGK.out; omega
          case rel => exact ⟨k + 1, rfl, by omega, by go_num, by rw [HX.out, show (i : Int) = natI i from rfl, zb_put hxn]; exact HS2.out⟩
        · have hxn' : ¬ (i : Int) < (n : Int) := by omega
          go_wp2_with fail
          go_roundg (mb - (k + 1))
          case measure => have := HGK.out; omega
          case rel => exact ⟨k + 1, rfl, by omega, by go_num, by rw [HX.out, zb_skip (by omega)]; exact HST.out⟩
      · go_wp2_with fail
        go_roundg (mb - (k + 1))
        case measure => have := HGK.out; omega
        case rel => exact ⟨k + 1, rfl, by omega, by go_num, by rw [HX.out, zb_skip (by omega)]; exact HST.out⟩
    · obtain rfl : mb = k := by omega
      have hst := HST.out
      rw [List.take_of_length_le (by rw [HCL.out]; omega)] at hst
      have HST := Lib.hid hst
      clear hst
      go_wp2_with fail
      go_loopg [48] n (fun g i wr => ∃ k : Nat, g = n - k ∧ k ≤ n ∧ i = .int .i64 k ∧ BS w1 n (zb n cs) wr)
      case atStart => exact ⟨0, by omega, by omega, rfl, HST.out⟩
      case round =>
        clear HST HB
        rename World => wo
        obtain ⟨k, hgk, hk, rfl, hst⟩ := hrel
        have HGK := Lib.hid hgk
        have HST := Lib.hid hst
        have HB := Lib.hid (HB1.out.trans (hst.bel.mono HB1.out.size))
        have HSLo := Lib.hid (HSL.out.below hst.bel)
        have HCSo := Lib.hid (HCS.out.below HB.out)
        clear hgk hst
        by_cases hlt : k < n
        · obtain ⟨p, hp⟩ : ∃ p, p = scoreZ l cs k := ⟨_, rfl⟩
          have HC1 := Lib.hid (hp ▸ score_any _ _ l k cs wo HSLo.out HCSo.out HSZ.out (by have := HN.out; omega))
          have HP := Lib.hid hp
          clear hp
          go_wp2_with fail
          refine HC1.out.mono ?_
          rintro e w4 ⟨rfl, hb4⟩
          have HST4 := Lib.hid (HST.out.below hb4)
          clear hb4 HC1 HST HSLo HCSo
          go_wp2_with fail
          have hsb := HST4.out.row.sl
          rw [← HA.out] at hsb
          refine (bundle21_any _ _ l k (zb n cs) w4 (HSL.out.below HST4.out.bel) hsb (by have := HN.out; omega) (by have := HN.out; omega) (by rw [zb_len]; exact HN.out)).mono ?_
          rintro e w5 ⟨v, rfl, hrow, hb5⟩
          have HST5 := Lib.hid (HST4.out.below hb5)
          have hbv := hrow.sl
          obtain ⟨va, vc, rfl, -, -⟩ := hbv.shape
          have HBV := Lib.hid hbv
          have hS := sum14_any (.slice la n lc) _ l _ w5 (HSL.out.below HST5.out.bel) hbv HSZ.out (by rw [List.length_map, List.length_range])
          rw [zb_score HN.out, ← HP.out] at hS
          have HS := Lib.hid hS
          generalize (List.map (fun k_1 => reachB l k k_1 && !(zb n cs).getD k_1 false) (List.range l.length)).length = vn at *
          clear hsb hrow hbv hb5 HST4 hS
          go_wp2_with fail
          refine HS.out.mono ?_
          rintro e w6 ⟨rfl, hb6⟩
          have HST6 := Lib.hid (HST5.out.below hb6)
          clear hb6 HS HBV HST5
          go_wp2_with fail
          go_roundg (n - (k + 1))
          case measure => have := HGK.out; omega
          case rel => exact ⟨k + 1, rfl, by omega, by go_num, HST6.out⟩
        · obtain rfl : n = k := by omega
          clear hlt
          obtain ⟨p, hp⟩ : ∃ p : Int × Int, (Calls Try.prog 9 #[.slice la n lc, .int .i64 at_, .slice ba mb bc] wo (NN p wo)) ∧ (¬ (0 ≤ at_ ∧ at_ < (n : Int)) → p = (0, 0)) := by
            by_cases hin : 0 ≤ at_ ∧ at_ < (n : Int)
            · obtain ⟨i, rfl⟩ : ∃ i : Nat, at_ = i := ⟨at_.toNat, by omega⟩
              exact ⟨_, score_any _ _ l i cs wo HSLo.out HCSo.out HSZ.out (by have := HN.out; omega), fun h => absurd hin h⟩
            · refine ⟨(0, 0), (score_out _ _ l at_ wo HSLo.out (by have := HN.out; omega)).mono fun e w' ⟨he, hw⟩ => ⟨he, hw ▸ Below.refl _ _⟩, fun _ => rfl⟩
          have HC1 := Lib.hid hp.1
          have HP := Lib.hid hp.2
          clear hp
          go_wp2_with fail
          refine HC1.out.mono ?_
          rintro e w4 ⟨rfl, hb4⟩
          have HB4 := Lib.hid (HB.out.trans (hb4.mono HB.out.size))
          clear hb4 HC1 HST HSLo HCSo HB
          by_cases hin : 0 ≤ at_ ∧ at_ < (n : Int)
          · obtain ⟨hi1, hi2⟩ := hin
            clear HP
            go_wp2_with fail
            refine (wakes21_any w4).mono ?_
            rintro e w5 ⟨rfl, hb5⟩
            have HB5 := Lib.hid (HB4.out.trans (hb5.mono HB4.out.size))
            clear hb5
            go_wp2_with fail
            go_ret
            exact ⟨rfl, HB5.out⟩
          · obtain rfl := HP.out hin
            by_cases hi1 : 0 ≤ at_
            · have hi2 : ¬ at_ < (n : Int) := fun h => hin ⟨hi1, h⟩
              clear hin HP
              go_wp2_with fail
              refine (wakes21_any w4).mono ?_
              rintro e w5 ⟨rfl, hb5⟩
              have HB5 := Lib.hid (HB4.out.trans (hb5.mono HB4.out.size))
              clear hb5
              go_wp2_with fail
              go_ret
              exact ⟨rfl, HB5.out⟩
            · clear hin HP
              go_wp2_with fail
              refine (wakes21_any w4).mono ?_
              rintro e w5 ⟨rfl, hb5⟩
              have HB5 := Lib.hid (HB4.out.trans (hb5.mono HB4.out.size))
              clear hb5
              go_wp2_with fail
              go_ret
              exact ⟨rfl, HB5.out⟩
end Go.Proofs.Ytfkcldaogfengaa
end

section
/-
  MinerTemplates: the walk. Conditions: none beyond the arguments' own.
-/
namespace Go.Proofs.Ytfkcldaogfengaa
open Go.RowKit Go.BigFrame Go.ChangeShapes Go.WideShapes
set_option linter.unusedVariables false
set_option linter.unusedSimpArgs false

theorem two_at {x y : Int} {w : World} {B k : Nat} {ty : TypeId} (h : w.heap[B]? = some (.cells #[.int .i64 x, .int .i64 y] ty (0, 0))) (hk : k < 2) (hx : -9223372036854775808 ≤ x ∧ x ≤ 9223372036854775807) (hy : -9223372036854775808 ≤ y ∧ y ≤ 9223372036854775807) :
    ∃ t : Int, (-9223372036854775808 ≤ t ∧ t ≤ 9223372036854775807) ∧ w.cell? ⟨B, k, none⟩ = some (.int .i64 t) := by
  match k, hk with
  | 0, _ => exact ⟨x, hx, cell_at h⟩
  | 1, _ => exact ⟨y, hy, cell_at h⟩
theorem max_mod (x : Int) (q : Int) (hq : 0 < q) : (max 0 x).tmod q = max 0 x % q := Int.tmod_eq_emod_of_nonneg (by omega)
theorem nat_ints {base : Nat} {w : World} {v : Value} {q : List Nat} {l : List PE} (h : NatRow base w v q) (hq : ∀ i ∈ q, i < l.length) (hl : l.length ≤ 10) : IntsAt w v (q.map natI) := h.ints fun k hk => by have := hq k hk; omega
set_option maxRecDepth 100000 in
set_option maxHeartbeats 8000000 in
theorem minerTemplates_walk (v0 : Value) (zs : List PSm) (thr most : Int) (w : World) (h0 : SlAt rpSm w v0 zs) (h1 : (Lit.int .i64 thr).wf = true) (h2 : (Lit.int .i64 most).wf = true) :
    Calls Try.prog 4 #[v0, .int .i64 thr, .int .i64 most] w (BIs true w) := by
  have HC := Lib.hid (ten_call h0)
  have HLI := Lib.hid (ten_listed h0)
  have HLE := Lib.hid (ten_len zs)
  generalize listL (zs.take 10) = l at *
  obtain ⟨a, c, rfl, -, -⟩ := h0.shape
  obtain ⟨z0, hz0⟩ : ∃ z0, z0 = zs.length := ⟨_, rfl⟩
  rw [← hz0] at HC ⊢
  have HTR := Lib.hid (wf_i64z h1)
  have HMO := Lib.hid (wf_i64z h2)
  obtain ⟨tt, htt⟩ : ∃ tt, tt = max 0 thr % 30000 := ⟨_, rfl⟩
  have et : (max 0 thr).tmod 30000 = tt := (max_mod thr 30000 (by decide)).trans htt.symm
  have et' : max 0 thr % 30000 = tt := htt.symm
  have HTT := Lib.hid (show -9223372036854775808 ≤ tt ∧ tt ≤ 9223372036854775807 by omega)
  obtain ⟨mm, hmm⟩ : ∃ mm, mm = max 0 most % 1500 := ⟨_, rfl⟩
  have em : (max 0 most).tmod 1500 = mm := (max_mod most 1500 (by decide)).trans hmm.symm
  have em' : max 0 most % 1500 = mm := hmm.symm
  have HMM := Lib.hid (show -9223372036854775808 ≤ mm ∧ mm ≤ 9223372036854775807 by omega)
  clear h0 h1 h2 hz0 htt hmm
  go_enter Try.func4, Try.ntmps4
  go_wp2_with fail
  refine HC.out.mono ?_
  rintro e w1 ⟨v, rfl, hsl, hb⟩
  have HB1 := Lib.hid hb
  have HSL := Lib.hid hsl
  obtain ⟨la, lc, rfl, hl1, hl2⟩ := hsl.shape
  rw [maxLen_eq] at hl2
  obtain ⟨n, hn⟩ : ∃ n, n = l.length := ⟨_, rfl⟩
  have HN := Lib.hid hn
  have hn10 : n ≤ 10 := by have := HLE.out; omega
  rw [← hn] at hl1 HSL ⊢
  have HSZ := Lib.hid (HLI.out.sized (by have := HLE.out; omega))
  have HFW := Lib.hid HLI.out.few
  clear hn hsl hb HC
  go_wp2_with fail
  have hz := heap_alloc_new w1 (.cells #[.int .i64 thr, .int .i64 tt] 3)
  have hal : Below w1.heap.size w1 (w1.alloc (.cells #[.int .i64 thr, .int .i64 tt] 3)) := (Below.refl _ _).alloc (Nat.le_refl _) _
  obtain ⟨B, hB⟩ : ∃ q, q = w1.heap.size := ⟨_, rfl⟩
  rw [← hB] at hz ⊢
  generalize w1.alloc (.cells #[.int .i64 thr, .int .i64 tt] 3) = w2 at *
  have HZ2 := Lib.hid hz
  have HB2 := Lib.hid (HB1.out.trans (hal.mono HB1.out.size))
  have HS2 := Lib.hid (HSL.out.below hal)
  clear hz hal hB HSL HB1 et et'
  go_loopg [24] 2 (fun g i wr => ∃ k : Nat, g = 2 - k ∧ k ≤ 2 ∧ i = .int .i64 k ∧ Below w2.heap.size w2 wr)
  case atStart => exact ⟨0, by omega, by omega, rfl, Below.refl _ _⟩
  case round =>
    rename World => wo
    obtain ⟨k, hgk, hk, rfl, hb⟩ := hrel
    have HGK := Lib.hid hgk
    have HBo := Lib.hid hb
    clear hgk hb
    by_cases hlt : k < 2
    · obtain ⟨t, ht, d0⟩ := two_at (stay HZ2.out HBo.out) hlt HTR.out HTT.out
      have HT := Lib.hid ht
      clear ht
      go_wp2_with fail
      have hz := heap_alloc_new wo (.cells #[.int .i64 most, .int .i64 mm] 3)
      have hal : Below wo.heap.size wo (wo.alloc (.cells #[.int .i64 most, .int .i64 mm] 3)) := (Below.refl _ _).alloc (Nat.le_refl _) _
      obtain ⟨C, hC⟩ : ∃ q, q = wo.heap.size := ⟨_, rfl⟩
      rw [← hC] at hz ⊢
      generalize wo.alloc (.cells #[.int .i64 most, .int .i64 mm] 3) = w3 at *
      have HZ3 := Lib.hid hz
      have HB3 := Lib.hid (HBo.out.trans (hal.mono HBo.out.size))
      clear hz hal hC d0
      rw [show decide ((k : Int) < 2) = true from decide_eq_true (by omega)]
      go_loopg [34] 2 (fun g i wr => ∃ k : Nat, g = 2 - k ∧ k ≤ 2 ∧ i = .int .i64 k ∧ Below w3.heap.size w3 wr)
      case atStart => exact ⟨0, by omega, by omega, rfl, Below.refl _ _⟩
      case round =>
        rename World => wq
        obtain ⟨k2, hgk, hk2, rfl, hb⟩ := hrel
        have HGK2 := Lib.hid hgk
        have HBq := Lib.hid hb
        have HB4 := Lib.hid (HB3.out.trans (hb.mono HB3.out.size))
        clear hgk hb
        by_cases hlt2 : k2 < 2
        · obtain ⟨m, hm, d0⟩ := two_at (stay HZ3.out HBq.out) hlt2 HMO.out HMM.out
          have HM := Lib.hid hm
          have HT1 := Lib.hid (template_any _ l t m wq (HS2.out.below HB4.out) HSZ.out HFW.out HT.out hm)
          clear hm
          have HPL := Lib.hid (tmplL_lt l t m)
          have HPE := Lib.hid (tmplL_len l t m)
          have HT2 := Lib.hid (fun wx (h : Below wq.heap.size wq wx) => template21_any (.slice la n lc) l t m wx ((HS2.out.below HB4.out).below h) HSZ.out HM.out)
          generalize tmplL l t m = ps at *
          go_wp2_with fail
          refine HT1.out.mono ?_
          rintro e w5 ⟨v, rfl, hg, hb⟩
          obtain ⟨ga, gc, rfl, -, -⟩ := hg.shape
          obtain ⟨pn, hpn⟩ : ∃ pn, pn = ps.length := ⟨_, rfl⟩
          have hmp : (ps.map (txI l)).length = pn := by rw [List.length_map, hpn]
          rw [hmp] at hg ⊢
          have HPN := Lib.hid hpn
          have hpn10 : pn ≤ 10 := by have := HPE.out; have := HLE.out; omega
          have HG := Lib.hid hg
          have HB5 := Lib.hid hb
          clear hg hb hmp d0 hpn HT1
          go_wp2_with fail
          refine (HT2.out w5 HB5.out).mono ?_
          rintro e w6 ⟨v, rfl, hrow, hb⟩
          have hin := nat_ints hrow HPL.out HLE.out
          obtain ⟨wa, wc, rfl, -, -⟩ := SlAt.shape hin
          have hmp : (ps.map natI).length = pn := by rw [List.length_map, HPN.out]
          rw [hmp] at hin ⊢
          have HW := Lib.hid hin
          have HG6 := Lib.hid (HG.out.below hb)
          have HB6 := Lib.hid (HB4.out.trans ((HB5.out.trans (hb.mono HB5.out.size)).mono HB4.out.size))
          have HB7 := Lib.hid (HBq.out.trans ((HB5.out.trans (hb.mono HB5.out.size)).mono HBq.out.size))
          clear hrow hb hin hmp HG HB5 HT2 HB4 HBq
          go_wp2_with fail
          go_loopg [53] pn (fun g i wr => ∃ j : Nat, g = pn - j ∧ j ≤ pn ∧ i = .int .i64 j ∧ Below w6.heap.size w6 wr)
          case atStart => exact ⟨0, by omega, by omega, rfl, Below.refl _ _⟩
          case round =>
            rename World => wr
            obtain ⟨j, hgj, hj, rfl, hb⟩ := hrel
            have HGJ := Lib.hid hgj
            have HBR := Lib.hid hb
            clear hgj hb
            by_cases hlj : j < pn
            · obtain ⟨gb, go_, tg, i1, n1, c1, i2, n2, c2, rfl, htg, htx, g0, g1, g2, g3⟩ := (HG6.out.below HBR.out).txs hlj
              obtain ⟨xb, xo, x, rfl, hx, d0⟩ := (HW.out.below HBR.out).cell hlj
              rw [List.getElem?_map] at htg hx
              obtain ⟨i, hi, rfl⟩ := Option.map_eq_some_iff.1 htg
              rw [hi] at hx
              obtain rfl : natI i = x := Option.some.inj hx
              have hin : i < n := by rw [HN.out]; exact HPL.out i (List.mem_of_getElem? hi)
              obtain ⟨eb, eo, y, j1, m1, e1, j2, m2, e2, rfl, hy, hye, -, y0, y1, y2, y3, -, -, -⟩ := ((HS2.out.below HB6.out).below HBR.out).ent hin
              have hty := txI_at hy
              have HSA := Lib.hid (fun y2 (h : Below wr.heap.size wr y2) => by
                have hs := same_any _ _ (txI l i) y.tx y2 (htx.below h) ((hye.below h).tx)
                rw [same_yes hty] at hs
                exact hs)
              change wr.cell? ⟨xb, xo + j, none⟩ = some (.int .i64 (i : Int)) at d0
              clear htg hi hx htx hye hy hty
              go_upto_region 15 with fail
              obtain ⟨C, hC⟩ : ∃ C : World → Prop, C = fun w' => Below wr.heap.size wr w' := ⟨_, rfl⟩
              have kg0 := kin_cell hC g0
              have kg1 := kin_cell hC g1
              have kg2 := kin_cell hC g2
              have kg3 := kin_cell hC g3
              have ky0 := kin_cell hC y0
              have ky1 := kin_cell hC y1
              have ky2 := kin_cell hC y2
              have ky3 := kin_cell hC y3
              have QS := Lib.hid (kin_call hC fun y h => HSA.out y h)
              have HC := Lib.hid hC
              clear hC
              refine wp_region_kin C (by kernel_rfl) (by kernel_rfl) (by rw [HC.out]; exact ⟨rfl, rfl, rfl, Nat.le_refl _, fun _ _ => rfl⟩) ?_
              intro hne
              repeat (first | (go_big_quiet_step ((rename_i y; go_at_call 15; exact Calls.kin (QS.out y) (fun w' h => h)))) | (quiet_step ((rename_i y; go_at_call 15; exact Calls.kin (QS.out y) (fun w' h => h)))))
              refine wpQuiet_nil ?_
              intro _ hw'
              obtain ⟨kx, hw''⟩ := hw'
              subst hw''
              obtain ⟨w8, hxc⟩ := kx
              rw [HC.out] at hxc
              clear HC hne kg0 kg1 kg2 kg3 ky0 ky1 ky2 ky3
              have HB8 := Lib.hid (HBR.out.trans (hxc.mono HBR.out.size))
              clear hxc HSA d0 g0 g1 g2 g3 y0 y1 y2 y3
              go_wp2_with fail
              go_roundg (pn - (j + 1))
              case measure => have := HGJ.out; omega
              case rel => exact ⟨j + 1, rfl, by omega, by go_num, HB8.out⟩
            · obtain rfl : pn = j := by omega
              have HB8 := Lib.hid (HB7.out.trans (HBR.out.mono HB7.out.size))
              go_wp2_with fail
              go_roundg (2 - (k2 + 1))
              case measure => have := HGK2.out; omega
              case rel => exact ⟨k2 + 1, rfl, by omega, by go_num, HB8.out⟩
        · obtain rfl : k2 = 2 := by omega
          go_wp2_with fail
          go_roundg (2 - (k + 1))
          case measure => have := HGK.out; omega
          case rel => exact ⟨k + 1, rfl, by omega, by go_num, HB4.out⟩
    · obtain rfl : k = 2 := by omega
      go_wp2_with fail
      refine (wakes21_any wo).mono ?_
      rintro e w5 ⟨rfl, hb⟩
      have HB5 := Lib.hid (HB2.out.trans ((HBo.out.trans (hb.mono HBo.out.size)).mono HB2.out.size))
      clear hb
      go_wp2_with fail
      go_ret
      exact ⟨rfl, HB5.out⟩
end Go.Proofs.Ytfkcldaogfengaa
end

section
/-
  MinerTemplates returns true for every input, and each argument reads behind the call as before. Conditions: none beyond the statement's own.
-/
namespace Go.Proofs.Ytfkcldaogfengaa.minerTemplatesDone
open Go.ChangeShapes Go.WideShapes Go.ChangeAt Go.RowKit
open Go.ChangeMaps (open_string shut_string)
set_option linter.unusedVariables false

theorem own : ownKnob Try.prog.godebug = none := by kernel_rfl
theorem laidOut : laidOutB Try.prog = true := by kernel_rfl

set_option maxRecDepth 100000 in
theorem lifted (os : Os) (started : os.Started) (H : Type) (enc : TypeId × Value → H) :
    ReturnsInHanded {} Try.checked os 4 .any (Rows.minerTemplatesSpec.pre6 enc Try.prog Try.f4 Rows.minerTemplatesRow.domain false) (Rows.minerTemplatesSpec.post enc Try.prog Try.f4 false true false false) := by
  refine returnsInHanded_of_change (C := Try.checked) own started (by kernel_rfl) Try.func4
    (ChangeSpec.witness6 (enc := enc) (C := Try.checked) false ⟨#[], #[.slice none 0 0, .int .i64 0, .int .i64 0], []⟩ 8 (by kernel_rfl) (by kernel_rfl) (by kernel_rfl) (by kernel_rfl)) ?_
  intro W base args ds gs before hval0 hW hcnd _
  have hval : ∀ (j : Nat) t v, Try.f4.params[j]? = some t → args[j]? = some v → Value.okWide Try.prog W .any base t v := hval0
  have hW' := hW
  obtain ⟨p, q, hA0, hV, rfl, hfz, hnd⟩ := hW
  have hA : DataW.TrodAll enc Try.prog W 0 (fun _ => true) true Try.f4.params.toList args.toList ds p := hA0
  rw [Try.params4] at hA hval
  obtain ⟨v0, vs0, d0, ds0, p0, q0, hargs, rfl, rfl, h0, r0⟩ := trodAll_cons hA
  obtain ⟨v1, vs1, d1, ds1, p1, q1, rfl, rfl, rfl, h1, r1⟩ := trodAll_cons r0
  obtain ⟨v2, vs2, d2, ds2, p2, q2, rfl, rfl, rfl, h2, r2⟩ := trodAll_cons r1
  obtain ⟨rfl, rfl, rfl⟩ := trodAll_nil r2
  obtain rfl : args = #[v0, v1, v2] := by cases args; simp_all
  obtain ⟨rfl, rfl⟩ := trodVars_none hV
  have k0 := h0
  have lt0 : ∀ x ∈ p0, x.block < W.heap.size := by obtain ⟨m, hm⟩ := k0; exact DataW.trod_lt m _ _ _ hm
  obtain ⟨a0, w0⟩ := open_smalls (hval 0 22 v0 rfl rfl) h0
  have k1 := h1
  have lt1 : ∀ x ∈ p1, x.block < W.heap.size := by obtain ⟨m, hm⟩ := k1; exact DataW.trod_lt m _ _ _ hm
  obtain ⟨a1, rfl, rfl, rfl, w1⟩ := open_int Try.underlying3 (hval 1 3 v1 rfl rfl) h1
  have k2 := h2
  have lt2 : ∀ x ∈ p2, x.block < W.heap.size := by obtain ⟨m, hm⟩ := k2; exact DataW.trod_lt m _ _ _ hm
  obtain ⟨a2, rfl, rfl, rfl, w2⟩ := open_int Try.underlying3 (hval 2 3 v2 rfl rfl) h2
  clear hA0 hval0
  refine (minerTemplates_walk v0 a0 a1 a2 W w0 w1 w2).mono fun e W' ⟨he, bel⟩ => ?_
  subst he
  exact ⟨_, rfl, _, _, _, [], _, [], hW', trodAll_mk1 (shut_bool Try.underlying4 _), (trodAll_cons_mk (Below.trod laidOut (by kernel_rfl) (of_decide_eq_true (by kernel_rfl)) k0 bel lt0) (trodAll_cons_mk (Below.trod laidOut (by kernel_rfl) (of_decide_eq_true (by kernel_rfl)) k1 bel lt1) (trodAll_cons_mk (Below.trod laidOut (by kernel_rfl) (of_decide_eq_true (by kernel_rfl)) k2 bel lt2) trodAll_mk0))), rfl, bel.frame _, fun h => by cases h⟩

theorem proved : Rows.MinerTemplatesSaid :=
  OpenClaim.holds_of_wide 4 Try.f4 rfl rfl rfl rfl rfl rfl rfl ⟨rfl, rfl, rfl, rfl, rfl⟩ rfl rfl rfl rfl rfl (by kernel_rfl) Try.func4 (by kernel_rfl)
    (of_decide_eq_true (by kernel_rfl)) (by unfold Func.isWrapper; first | (rw [if_pos (by decide +kernel)]; kernel_rfl) | (rw [if_neg (by decide +kernel)]; exact ⟨rfl, rfl⟩))
    (fun os started H enc _ => lifted os started H enc)

#print axioms proved
end Go.Proofs.Ytfkcldaogfengaa.minerTemplatesDone
end
