/-
  MinerOrder, part 2: the texts Mr, Ms, Ca, Cmp, Cc, Mb, Mc, Mf, one after another. Conditions: none beyond those named at each.
-/
import Derived.Test.YtfkcldaogfengaaQ1MinerOrder
import Derived.Test.YtfkcldaogfengaaTxA
import Derived.Test.YtfkcldaogfengaaShelf
import Derived.Test.YtfkcldaogfengaaMa
import Derived.Test.YtfkcldaogfengaaMe
import Derived.Test.YtfkcldaogfengaaCut
section
/-
  The document's Make: the walk. Conditions: the plain data and the entries lie in memory.
-/
namespace Go.Proofs.Ytfkcldaogfengaa
open Go.RowKit Go.BigFrame
set_option linter.unusedVariables false
set_option linter.unusedSimpArgs false

structure PSm.Ok (z : PSm) : Prop where
  from_ : ∀ f ∈ z.from_, f < 256
  index : z.index < 256
  outs : z.outs < 256
  mark : z.mark < 256
  long : z.long < 8
def NatsAt (w : World) (v : Value) (fs : List Nat) : Prop := SlAt (rpInt .u8) w v (fs.map natI)
set_option maxRecDepth 100000 in
set_option maxHeartbeats 4000000 in
theorem make14_any (sl fv : Value) (l : List PE) (z : PSm) (w : World) (hsl : SlAt rpE w sl l) (hfv : NatsAt w fv z.from_) (hz : z.Ok) (hl : l.length ≤ 1000) :
    Calls Try.prog 18 #[sl, .agg #[fv, .int .u8 z.index, .int .u8 z.outs, .int .i64 z.fee, .int .u8 z.mark, .int .u8 z.long]] w (fun e w' => ∃ v, e = .returned v ∧ TxOwn w.heap.size w' v (makeT l z) ∧ Below w.heap.size w w') := by
  have HSL := Lib.hid hsl
  have HFV := Lib.hid hfv
  have HZK := Lib.hid hz
  obtain ⟨a, c, rfl, hl1, hl2⟩ := hsl.shape
  obtain ⟨a', c', rfl, hq1, hq2⟩ := SlAt.shape hfv
  rw [List.length_map] at hq1
  rw [maxLen_eq] at hl2 hq2
  obtain ⟨n, hn⟩ : ∃ n, n = l.length := ⟨_, rfl⟩
  obtain ⟨m, hm⟩ : ∃ m, m = z.from_.length := ⟨_, rfl⟩
  have e0 : (Value.slice a' (z.from_.map natI).length c') = .slice a' m c' := by rw [List.length_map, hm]
  have hf2 : NatsAt w (.slice a' m c') z.from_ := by have h := hfv; rw [e0] at h; exact h
  rw [e0]
  rw [← hn] at hl1 HSL hl ⊢
  rw [← hm] at hq1
  have HFV := Lib.hid hf2
  have HN := Lib.hid hn
  have HM := Lib.hid hm
  have hmk : z.mark < 256 := hz.mark
  have HIDS := Lib.hid (show ∀ f, (fromId l f).size ≤ maxLen by
    intro f
    unfold fromId
    split
    · split
      · rename_i x hx
        have hlt := (List.getElem?_eq_some_iff.1 hx).1
        obtain ⟨_, _, y, _, _, _, _, _, _, _, hy, hye, -⟩ := HSL.out.ent (i := f % l.length) (by rw [hn]; exact hlt)
        rw [hy] at hx
        rw [← Option.some.inj hx, maxLen_eq]
        exact hye.ok.id
      · decide
    · unfold idB
      rw [mk_size, maxLen_eq]
      simp [idL])
  clear hn hm hsl hfv hz e0 hf2
  have hcv : IntKind.u32.wrap (z.mark : Int) = (z.mark : Int) := by rw [IntKind.wrap_u32]; omega
  go_enter Try.func18, Try.ntmps18
  go_upto_region 2 with fail
  obtain ⟨X, hX⟩ : ∃ q, q = w.heap.size := ⟨_, rfl⟩
  have hnews := new3 w X hX (.cells #[.slice a' m c', .int .u8 z.index, .int .u8 z.outs, .int .i64 z.fee, .int .u8 z.mark, .int .u8 z.long] 54) (.cells #[.int .u32 0, .slice none 0 0, .slice none 0 0, .int .u32 0] 41) (.cells #[.int .u32 2, .slice none 0 0, .slice none 0 0, .int .u32 z.mark] 41)
  rw [← hX]
  generalize (((w.alloc (.cells #[.slice a' m c', .int .u8 z.index, .int .u8 z.outs, .int .i64 z.fee, .int .u8 z.mark, .int .u8 z.long] 54)).alloc (.cells #[.int .u32 0, .slice none 0 0, .slice none 0 0, .int .u32 0] 41)).alloc (.cells #[.int .u32 2, .slice none 0 0, .slice none 0 0, .int .u32 z.mark] 41)) = w0 at *
  obtain ⟨hz0, hz1, hz2, hal⟩ := hnews
  have HST := Lib.hid (show MK w X #[.slice a' m c', .int .u8 z.index, .int .u8 z.outs, .int .i64 z.fee, .int .u8 z.mark, .int .u8 z.long] z.mark (.slice none 0 0) (.slice none 0 0) [] [] w0 from
    ⟨hal, hX, hz0, hz1, hz2, insOwn_nil _ _, ⟨World.ownsRow_nil _ _ _ _, fun x hx => by simp at hx⟩, fun b hb => by cases hb⟩)
  have HXW := Lib.hid hX
  obtain ⟨zc, hzc⟩ : ∃ zc : Array Value, zc = #[.slice a' m c', .int .u8 z.index, .int .u8 z.outs, .int .i64 z.fee, .int .u8 z.mark, .int .u8 z.long] := ⟨_, rfl⟩
  rw [← hzc] at HST
  have HZC := Lib.hid hzc
  clear hz0 hz1 hz2 hal hX hcv hmk hzc
  obtain ⟨mm, hmm⟩ : ∃ mm, mm = min m 4 := ⟨_, rfl⟩
  have hmm4 : mm ≤ 4 ∧ mm ≤ m := by omega
  have HMM := Lib.hid hmm
  clear hmm
  go_upto_block 0 with fail
  go_cut [] (fun wx => ∃ (ia : Option Addr) (ic : Nat) (ps : List (PIn × Value)), ps.map (·.1) = (makeT l z).ins ∧ MK w X zc z.mark (.slice ia ps.length ic) (.slice none 0 0) ps [] wx)
  case first =>
    have s0 : w0.cell? ⟨X, 0, none⟩ = some (.slice a' m c') := by have h := HST.out.bz; rw [HZC.out] at h; exact cell_at h
    go_wp2_with fail
    go_loopg [6] mm (fun g i wr => ∃ (k : Nat) (ia : Option Addr) (ic : Nat) (ps : List (PIn × Value)), g = mm - k ∧ k ≤ mm ∧ i = .int .i64 k ∧ ps.map (·.1) = (List.range k).map (makeIn l z) ∧ MK w X zc z.mark (.slice ia ps.length ic) (.slice none 0 0) ps [] wr)
    case atStart => exact ⟨0, none, 0, [], rfl, by omega, rfl, rfl, HST.out⟩
    case round =>
      clear HST s0
      rename World => wo
      obtain ⟨k, ia, ic, ps, hgk, hk, rfl, hpe, hst⟩ := hrel
      have HGK := Lib.hid hgk
      have HPE := Lib.hid hpe
      have HST := Lib.hid hst
      have HPL := Lib.hid (show ps.length = k by
        have h := congrArg List.length hpe
        rw [List.length_map, List.length_map, List.length_range] at h
        exact h)
      clear hgk hpe hst
      have hbz := HST.out.bz
      rw [HZC.out] at hbz
      have s0 : wo.cell? ⟨X, 0, none⟩ = some (.slice a' m c') := cell_at hbz
      have s1 : wo.cell? ⟨X, 1, none⟩ = some (.int .u8 z.index) := cell_at hbz
      clear hbz
      by_cases hlt : k < mm
      · have hkm : k < m := by omega
        have hk4 : k < 4 := by omega
        obtain ⟨fb, fo, f, cs, hfa, hf, hl3, hcs, hcs2, hfw⟩ := SlAt.at (HFV.out.below HST.out.bel) hkm
        subst hfa
        rw [List.getElem?_map] at hf
        obtain ⟨fn, hfn, rfl⟩ := Option.map_eq_some_iff.1 hf
        have hf256 : fn < 256 := HZK.out.from_ fn (List.mem_of_getElem? hfn)
        have d0 : wo.cell? ⟨fb, fo + k, none⟩ = some (.int .u8 (fn : Int)) := by
          subst hcs2
          have h := hcs 0 _ rfl
          simpa [rpInt, natI] using h
        have HGD := Lib.hid (show z.from_.getD k 0 = fn by rw [List.getD_eq_getElem?_getD, hfn]; rfl)
        have w1' : IntKind.i64.wrap (fn : Int) = (fn : Int) := by rw [IntKind.wrap_i64]; omega
        obtain ⟨fr, hfr⟩ : ∃ fr, fr = fn % 16 := ⟨_, rfl⟩
        have e16 : (fn : Int).tmod 16 = (fr : Int) := by rw [Int.tmod_eq_emod_of_nonneg (by omega)]; omega
        have e16' : (fn : Int) % 16 = (fr : Int) := by omega
        have HFR := Lib.hid hfr
        clear hf hl3 hcs hcs2 hfw hfn hfr
        go_wp2_with fail
        refine (id_any (fr : Int) wo).mono ?_
        rintro e w2 ⟨rfl, hxc⟩
        have HST := Lib.hid (HST.out.below hxc)
        replace s0 := below_cells hxc _ _ s0
        replace s1 := below_cells hxc _ _ s1
        clear hxc d0 e16 e16'
        go_upto_region 7 with fail
        obtain ⟨tb, htb⟩ : ∃ tb, tb = (decide (fn < 128) && decide (0 < n)) := ⟨_, rfl⟩
        have HTB := Lib.hid htb
        clear htb
        go_cut [41] (fun v wx => v = .bool tb ∧ wx = w2)
        case first =>
          by_cases h1 : fn < 128
          · have h1' : (fn : Int) < 128 := by omega
            by_cases h2 : 0 < n
            · have h2' : (0 : Int) < (n : Int) := by omega
              obtain rfl : tb = true := by rw [HTB.out, decide_eq_true h1, decide_eq_true h2]; rfl
              go_wp2_with fail
              go_meet
              exact ⟨rfl, rfl⟩
            · have h2' : ¬ ((0 : Int) < (n : Int)) := by omega
              obtain rfl : tb = false := by rw [HTB.out, decide_eq_true h1, decide_eq_false h2]; rfl
              go_wp2_with fail
              go_meet
              exact ⟨rfl, rfl⟩
          · have h1' : ¬ ((fn : Int) < 128) := by omega
            obtain rfl : tb = false := by rw [HTB.out, decide_eq_false h1]; rfl
            go_wp2_with fail
            go_meet
            exact ⟨rfl, rfl⟩
        case rest =>
        obtain ⟨rfl, rfl⟩ := hcut
        rename World => w2
        go_upto_if 41 with fail
        go_cut [8] (fun v wx => v = .string (fromId l fn) ∧ wx = w2)
        case first =>
          cases tb
          · have HID := Lib.hid (show fromId l fn = idB (fr : Int) by
              unfold fromId
              rw [if_neg (by
                rintro ⟨h1, h2⟩
                have h := HTB.out
                rw [decide_eq_true h1, decide_eq_true (by rw [HN.out]; exact h2)] at h
                cases h), HFR.out])
            go_wp2_with fail
            go_meet
            exact ⟨by rw [HID.out] <;> rfl, rfl⟩
          · have hb := HTB.out.symm
            rw [Bool.and_eq_true] at hb
            have h1 := of_decide_eq_true hb.1
            have h2 := of_decide_eq_true hb.2
            clear hb
            obtain ⟨q, hq⟩ : ∃ q, q = fn % n := ⟨_, rfl⟩
            have hqn : q < n := by rw [hq]; exact Nat.mod_lt _ h2
            have en : (fn : Int).tmod (n : Int) = (q : Int) := by rw [Int.tmod_eq_emod_of_nonneg (by omega), hq]; rfl
            have en' : (fn : Int) % (n : Int) = (q : Int) := by rw [hq]; rfl
            obtain ⟨sb, so, x, ia', ni, ic', oa, no, oc, hsa, hx, -, -, -, -, -, -, d4, -, -⟩ := (HSL.out.below HST.out.bel).ent hqn
            subst hsa
            have HID := Lib.hid (show fromId l fn = x.id by unfold fromId; rw [if_pos ⟨h1, by rw [← HN.out]; exact h2⟩, ← HN.out, ← hq, hx])
            have hnz : ¬ ((n : Int) = 0) := by omega
            have hnz2 : ((n : Int) == 0) = false := by rw [beq_eq_false_iff_ne]; omega
            clear hq hx h1 h2
            go_wp2_with fail
            go_meet
            exact ⟨by rw [HID.out] <;> rfl, rfl⟩
        case rest =>
          obtain ⟨rfl, rfl⟩ := hcut
          rename World => w2
          go_upto_region 9 with fail
          have hok : OkIn (makeIn l z k) := ⟨HIDS.out _, by show (z.index >>> (2 * k)) % 4 < 4294967296; omega, by show 4294967293 < 4294967296; decide, fun s hs => by cases hs⟩
          obtain ⟨a3, c3, wd3, hrun3, hk4', hst3⟩ := (HST.out.below (show Below w2.heap.size w2 w2.drew from ⟨rfl, rfl, rfl, Nat.le_refl _, fun _ _ => rfl⟩)).addIn (makeIn l z k) rfl hok (by have := HPL.out; omega)
          obtain ⟨fi, hfi⟩ : ∃ fi, fi = (z.index >>> (2 * k)) % 4 := ⟨_, rfl⟩
          have hmi : makeIn l z k = ⟨fromId l fn, fi, 4294967293, []⟩ := by unfold makeIn; rw [HGD.out, hfi]
          rw [hmi] at hrun3 hst3
          dsimp only at hrun3
          have u1 : w2.cell? ⟨X + 1 + 1, 1, none⟩ = some (.slice ia ps.length ic) := cell_at HST.out.bu
          have u1a : ∀ o', (w2.alloc o').cell? ⟨X + 1 + 1, 1, none⟩ = some (.slice ia ps.length ic) := fun o' => cell_over u1 o'
          have s1a : ∀ o', (w2.alloc o').cell? ⟨X, 1, none⟩ = some (.int .u8 z.index) := fun o' => cell_over s1 o'
          have u1d : wd3.cell? ⟨X + 1 + 1, 1, none⟩ = some (.slice ia ps.length ic) := cell_at hk4'
          have g1d : wd3.frozen? ⟨X + 1 + 1, 1, none⟩ = false := free_at hk4'
          have HR3 := Lib.hid (show (Builtin.append_ #[38, 38] 38 #[.slice ia ps.length ic, .slice (some ⟨w2.heap.size, 0, none⟩) 1 1]).run Try.prog ((w2.alloc (.cells #[.string (fromId l fn), .int .u32 fi, .int .u32 4294967293, .slice none 0 0] 66)).drew) = .ok (.slice a3 (ps.length + 1) c3) wd3 from hrun3)
          have HST3 := Lib.hid hst3
          have W1 : IntKind.i64.wrap (2 * (k : Int)) = 2 * (k : Int) := by rw [IntKind.wrap_i64]; omega
          have W2 : IntKind.i64.wrap (z.index : Int) = (z.index : Int) := by rw [IntKind.wrap_i64]; have := HZK.out.index; omega
          have hfe : (IntKind.u32.wrap ((z.index : Int) / 2 ^ (2 * (k : Int)).toNat)).tmod 4 = (fi : Int) := by
            have h1 : (2 * (k : Int)).toNat = 2 * k := by omega
            have h2 : (z.index : Int) / 2 ^ (2 * k) = ((z.index / 2 ^ (2 * k) : Nat) : Int) := by simp
            have h3 : z.index / 2 ^ (2 * k) ≤ z.index := Nat.div_le_self _ _
            have h4 := HZK.out.index
            rw [h1, h2, hfi, Nat.shiftRight_eq_div_pow]
            generalize z.index / 2 ^ (2 * k) = q at *
            rw [IntKind.wrap_u32, Int.tmod_eq_emod_of_nonneg (by omega)]
            omega
          have HFI := Lib.hid hfi
          clear hrun3 hk4' hst3 hok hmi hfi w1'
          go_region_law (refine step_append_run rfl (.tmp 51) (.tmp 63) 38 38 rfl rfl rfl HR3.out ?_)
          all_goals
            go_wp2_with fail
            go_roundg (mm - (k + 1))
            case measure => have := HGK.out; omega
            case rel =>
              refine ⟨k + 1, a3, c3, ps ++ [(⟨fromId l fn, fi, 4294967293, []⟩, .slice none 0 0)], rfl, by omega, by go_num, ?_, ?_⟩
              · rw [List.map_append, HPE.out, List.range_succ, List.map_append]
                congr 1
                simp only [List.map_cons, List.map_nil]
                unfold makeIn
                rw [HGD.out, HFI.out]
              · rw [List.length_append]
                exact HST3.out
      · obtain rfl : mm = k := by omega
        have HF := Lib.hid (show ps.map (·.1) = (makeT l z).ins by rw [HPE.out, HMM.out, HM.out]; rfl)
        have hcase : ¬ mm < m ∨ (mm < m ∧ ¬ mm < 4) := by have := HMM.out; omega
        rcases hcase with h1 | ⟨h1, h2⟩
        · have h1' : ¬ ((mm : Int) < (m : Int)) := by omega
          go_wp2_with fail
          go_meet
          exact ⟨_, _, ps, HF.out, HST.out⟩
        · have h1' : (mm : Int) < (m : Int) := by omega
          have h2' : ¬ ((mm : Int) < 4) := by omega
          go_wp2_with fail
          go_meet
          exact ⟨_, _, ps, HF.out, HST.out⟩
  case rest =>
    obtain ⟨ia, ic, ps, hps, hst⟩ := hcut
    rename World => w1
    clear HST
    have HPS := Lib.hid hps
    have HST := Lib.hid hst
    clear hps hst
    obtain ⟨no, hno⟩ : ∃ no, no = z.outs % 3 + 1 := ⟨_, rfl⟩
    have hno3 : 1 ≤ no ∧ no ≤ 3 := by omega
    obtain ⟨nr, hnr⟩ : ∃ nr, nr = z.outs % 3 := ⟨_, rfl⟩
    have ho256 := HZK.out.outs
    have e3 : (z.outs : Int).tmod 3 = (nr : Int) := by rw [Int.tmod_eq_emod_of_nonneg (by omega)]; omega
    have e3' : (z.outs : Int) % 3 = (nr : Int) := by omega
    have hw3 : IntKind.i64.wrap (nr : Int) = (nr : Int) := by rw [IntKind.wrap_i64]; omega
    have HNO := Lib.hid hno
    have hnr1 : no = nr + 1 := by omega
    clear hno hnr ho256
    go_wp2_with fail
    go_loopg [9] no (fun g i wr => ∃ (k : Nat) (oa : Option Addr) (oc : Nat) (os : List POut), g = no - k ∧ k ≤ no ∧ i = .int .i64 k ∧ os = (List.range k).map (fun i => ⟨1000 + (i : Int), scr9⟩) ∧ MK w X zc z.mark (.slice ia ps.length ic) (.slice oa os.length oc) ps os wr)
    case atStart => exact ⟨0, none, 0, [], rfl, by omega, rfl, rfl, HST.out⟩
    case round =>
      clear HST
      rename World => wo
      obtain ⟨k, oa, oc, os, hgk, hk, rfl, hos, hst⟩ := hrel
      have HGK := Lib.hid hgk
      have HOS := Lib.hid hos
      have HST := Lib.hid hst
      have HOL := Lib.hid (show os.length = k by rw [hos, List.length_map, List.length_range])
      clear hgk hos hst
      have hbz := HST.out.bz
      rw [HZC.out] at hbz
      have s2 : wo.cell? ⟨X, 2, none⟩ = some (.int .u8 z.outs) := cell_at hbz
      have s5 : wo.cell? ⟨X, 5, none⟩ = some (.int .u8 z.long) := cell_at hbz
      clear hbz
      by_cases hlt : k < no
      · have hle : (k : Int) ≤ (nr : Int) := by omega
        obtain ⟨a3, c3, wd3, hrun3, hbu3, hst3⟩ := HST.out.addOut ⟨1000 + (k : Int), scr9⟩ (by refine ⟨?_, ?_⟩; dsimp only; omega; show scr9.size ≤ maxLen; decide) (by have := HOL.out; omega)
        have u2 : wo.cell? ⟨X + 1 + 1, 2, none⟩ = some (.slice oa os.length oc) := cell_at HST.out.bu
        have u2d : wd3.cell? ⟨X + 1 + 1, 2, none⟩ = some (.slice oa os.length oc) := cell_at hbu3
        have g2d : wd3.frozen? ⟨X + 1 + 1, 2, none⟩ = false := free_at hbu3
        have hwk : IntKind.i64.wrap (1000 + (k : Int)) = 1000 + (k : Int) := by rw [IntKind.wrap_i64]; omega
        have HR3 := Lib.hid hrun3
        have HST3 := Lib.hid hst3
        clear hrun3 hbu3 hst3
        go_wp2_with (at_builtin; refine wpList_append_run rfl (.tmp 75) (.tmp 79) 39 39 rfl rfl rfl HR3.out ?_)
        go_roundg (no - (k + 1))
        case measure => have := HGK.out; omega
        case rel => exact ⟨k + 1, a3, c3, os ++ [⟨1000 + (k : Int), scr9⟩], rfl, by omega, by go_num, by rw [HOS.out, List.range_succ, List.map_append]; rfl, by rw [List.length_append]; exact HST3.out⟩
      · obtain rfl : no = k := by omega
        have hle : ¬ ((no : Int) ≤ (nr : Int)) := by omega
        obtain ⟨lg, hlg⟩ : ∃ lg, lg = z.long := ⟨_, rfl⟩
        have hlg8 : lg < 8 := by rw [hlg]; exact HZK.out.long
        rw [← hlg] at s5
        have HLG := Lib.hid hlg
        clear hlg
        have hle2 : ¬ ((nr : Int) + 1 ≤ (nr : Int)) := by omega
        have hwl : IntKind.i64.wrap (lg : Int) = (lg : Int) := by rw [IntKind.wrap_i64]; omega
        go_wp2_with fail
        clear e3 e3' hle hle2
        go_loopg [10] lg (fun g i wr => ∃ (k : Nat) (ob : Option Addr) (oe : Nat) (oq : List POut), g = lg - k ∧ k ≤ lg ∧ i = .int .i64 k ∧ oq = os ++ List.replicate k ⟨1000, ascii40⟩ ∧ MK w X zc z.mark (.slice ia ps.length ic) (.slice ob oq.length oe) ps oq wr)
        case atStart => exact ⟨0, oa, oc, os, rfl, by omega, rfl, by simp, HST.out⟩
        case round =>
          clear HST s2 s5
          rename World => wq
          obtain ⟨k, ob, oe, oq, hgk, hk, rfl, hoq, hst⟩ := hrel
          have HGK := Lib.hid hgk
          have HOQ := Lib.hid hoq
          have HST := Lib.hid hst
          have HOL2 := Lib.hid (show oq.length ≤ 11 by rw [hoq, List.length_append, List.length_replicate]; have := HOL.out; omega)
          clear hgk hoq hst
          have hbz := HST.out.bz
          rw [HZC.out, ← HLG.out] at hbz
          have s5 : wq.cell? ⟨X, 5, none⟩ = some (.int .u8 lg) := cell_at hbz
          clear hbz
          by_cases hkl : k < lg
          · have hkl' : (k : Int) < (lg : Int) := by omega
            obtain ⟨a3, c3, wd3, hrun3, hbu3, hst3⟩ := HST.out.addOut ⟨1000, ascii40⟩ (by refine ⟨?_, ?_⟩; dsimp only; omega; show ascii40.size ≤ maxLen; decide) (by have := HOL2.out; omega)
            have u2 : wq.cell? ⟨X + 1 + 1, 2, none⟩ = some (.slice ob oq.length oe) := cell_at HST.out.bu
            have u2d : wd3.cell? ⟨X + 1 + 1, 2, none⟩ = some (.slice ob oq.length oe) := cell_at hbu3
            have g2d : wd3.frozen? ⟨X + 1 + 1, 2, none⟩ = false := free_at hbu3
            have HR3 := Lib.hid hrun3
            have HST3 := Lib.hid hst3
            clear hrun3 hbu3 hst3
            go_wp2_with (at_builtin; refine wpList_append_run rfl (.tmp 90) (.tmp 92) 39 39 rfl rfl rfl HR3.out ?_)
            go_roundg (lg - (k + 1))
            case measure => have := HGK.out; omega
            case rel => exact ⟨k + 1, a3, c3, oq ++ [⟨1000, ascii40⟩], rfl, by omega, by go_num, by rw [HOQ.out, List.replicate_succ', List.append_assoc], by rw [List.length_append]; exact HST3.out⟩
          · obtain rfl : lg = k := by omega
            have hkl' : ¬ ((lg : Int) < (lg : Int)) := by omega
            have HFO := Lib.hid (show oq = (makeT l z).outs by rw [HOQ.out, HOS.out, HNO.out, HLG.out]; rfl)
            have u0 : wq.cell? ⟨X + 1 + 1, 0, none⟩ = some (.int .u32 2) := cell_at HST.out.bu
            have u1 : wq.cell? ⟨X + 1 + 1, 1, none⟩ = some (.slice ia ps.length ic) := cell_at HST.out.bu
            have u2 : wq.cell? ⟨X + 1 + 1, 2, none⟩ = some (.slice ob oq.length oe) := cell_at HST.out.bu
            have u3 : wq.cell? ⟨X + 1 + 1, 3, none⟩ = some (.int .u32 z.mark) := cell_at HST.out.bu
            have r0 : wq.cell? ⟨X + 1, 0, none⟩ = some (.int .u32 0) := cell_at HST.out.br
            have r1 : wq.cell? ⟨X + 1, 1, none⟩ = some (.slice none 0 0) := cell_at HST.out.br
            have r2 : wq.cell? ⟨X + 1, 2, none⟩ = some (.slice none 0 0) := cell_at HST.out.br
            have r3 : wq.cell? ⟨X + 1, 3, none⟩ = some (.int .u32 0) := cell_at HST.out.br
            have f0 : wq.frozen? ⟨X + 1, 0, none⟩ = false := free_at HST.out.br
            have f1 : wq.frozen? ⟨X + 1, 1, none⟩ = false := free_at HST.out.br
            have f2 : wq.frozen? ⟨X + 1, 2, none⟩ = false := free_at HST.out.br
            have f3 : wq.frozen? ⟨X + 1, 3, none⟩ = false := free_at HST.out.br
            obtain ⟨q1, q2, q3⟩ := four_cells HST.out.br (.int .u32 2) (.slice ia ps.length ic) (.slice ob oq.length oe) (.int .u32 z.mark)
            have HQ1 := Lib.hid q1
            have HQ2 := Lib.hid q2
            have HQ3 := Lib.hid q3
            clear q1 q2 q3
            go_wp2_with fail
            clear u0 u1 u2 u3 r0 r1 r2 r3 f0 f1 f2 f3 s5
            generalize ((((wq.setCell ⟨X + 1, 0, none⟩ (.int .u32 2)).setCell ⟨X + 1, 1, none⟩ (.slice ia ps.length ic)).setCell ⟨X + 1, 2, none⟩ (.slice ob oq.length oe)).setCell ⟨X + 1, 3, none⟩ (.int .u32 z.mark)) = wf at *
            have r0 : wf.cell? ⟨X + 1, 0, none⟩ = some (.int .u32 2) := cell_at HQ1.out
            have r1 : wf.cell? ⟨X + 1, 1, none⟩ = some (.slice ia ps.length ic) := cell_at HQ1.out
            have r2 : wf.cell? ⟨X + 1, 2, none⟩ = some (.slice ob oq.length oe) := cell_at HQ1.out
            have r3 : wf.cell? ⟨X + 1, 3, none⟩ = some (.int .u32 z.mark) := cell_at HQ1.out
            change bodyPost Try.prog Try.f18 _ Exit.ret _ _
            refine bodyPost_ret (v := .agg #[.int .u32 2, .slice ia ps.length ic, .slice ob oq.length oe, .int .u32 z.mark]) (by simp [results, Try.results18, go_sem, r0, r1, r2, r3]) rfl ?_
            have hxw := HXW.out
            have hins := (HST.out.ins.kept (w' := wf) fun b hb => HQ2.out b (by have := (HST.out.ins.lt hb).1; omega)).base (base' := w.heap.size) (by omega)
            have houts := (HST.out.outs.kept (w' := wf) fun b hb => HQ2.out b (by have := (HST.out.outs.row.lt b hb).1; omega)).base (base' := w.heap.size) (by omega)
            exact ⟨_, rfl, ⟨⟨_, _, ps, rfl, HPS.out.symm, hins, HFO.out ▸ houts, HST.out.ap⟩, by show 2 < 4294967296; decide, by have := HZK.out.mark; show z.mark < 4294967296; omega⟩, HST.out.bel.trans (HQ3.out w.heap.size (by omega))⟩
end Go.Proofs.Ytfkcldaogfengaa
end

section
/-
  Small transactions as data, as they are handed in. Conditions: none.
-/
namespace Go.Proofs.Ytfkcldaogfengaa
open Go.RowKit Go.ChangeShapes Go.WideShapes
set_option linter.unusedVariables false
set_option linter.unusedSimpArgs false
theorem wf_u8z {n : Int} (h : (Lit.int .u8 n).wf = true) : 0 ≤ n ∧ n ≤ 255 := by simpa [Lit.wf, IntKind.min, IntKind.max, IntKind.signed, IntKind.bits] using h
theorem wf_i64z {n : Int} (h : (Lit.int .i64 n).wf = true) : -9223372036854775808 ≤ n ∧ n ≤ 9223372036854775807 := by simpa [Lit.wf, IntKind.min, IntKind.max, IntKind.signed, IntKind.bits] using h
structure PSm.Ok0 (z : PSm) : Prop where
  from_ : ∀ f ∈ z.from_, f < 256
  index : z.index < 256
  outs : z.outs < 256
  mark : z.mark < 256
  long : z.long < 256
  fee : -9223372036854775808 ≤ z.fee ∧ z.fee ≤ 9223372036854775807
def rpSm : Rp PSm := ⟨6, fun w cs x => ∃ v, cs = [v, .int .u8 x.index, .int .u8 x.outs, .int .i64 x.fee, .int .u8 x.mark, .int .u8 x.long] ∧ NatsAt w v x.from_ ∧ x.Ok0, fun hw ⟨v, h1, h2, h3⟩ => ⟨v, h1, SlAt.mono h2 hw, h3⟩⟩
theorem nats_of {w : World} {v : Value} {zs : List Int} (h : SlAt (rpInt .u8) w v zs) : ∃ fs : List Nat, NatsAt w v fs ∧ ∀ f ∈ fs, f < 256 := by
  have hb : ∀ x ∈ zs, 0 ≤ x ∧ x < 256 := by
    intro x hx
    obtain ⟨i, hi, rfl⟩ := List.getElem_of_mem hx
    obtain ⟨a, c, rfl, h2, h3, h4⟩ := h
    obtain ⟨b, o, cs, rfl, e2, e3, e4, e5⟩ := h4 i _ (List.getElem?_eq_getElem hi)
    have := wf_u8z e5
    omega
  have e : (zs.map Int.toNat).map natI = zs := by
    rw [List.map_map]
    conv => rhs; rw [← List.map_id zs]
    refine List.map_congr_left fun x hx => ?_
    have := hb x hx
    show ((x.toNat : Nat) : Int) = x
    omega
  refine ⟨zs.map Int.toNat, by unfold NatsAt; rw [e]; exact h, fun f hf => ?_⟩
  obtain ⟨x, hx, rfl⟩ := List.mem_map.1 hf
  have := hb x hx
  omega
section
variable {H : Type} {enc : TypeId × Value → H} {w : World} {spare : Nat → Bool} {held : Bool}
set_option maxRecDepth 100000 in
theorem rp_of_sm {fuel : Nat} {cs : List Value} {y : DataW H × List MemPlace} (h : DataW.trod enc Try.prog w 0 spare held fuel 54 cs = some y) : ∃ x, rpSm.at_ w cs x := by
  obtain ⟨xs, n, _, _, hl, hlen, hf⟩ := DataW.trod_struct Try.underlying54 h
  have hc : Try.prog.cellsOf 54 = 6 := by kernel_rfl
  rw [hc] at hl
  match cs, hl with
  | [c0, c1, c2, c3, c4, c5], _ =>
    have hlen' : xs.length = 6 := hlen
    have g0 := hf 0 _ rfl
    have g1 := hf 1 _ rfl
    have g2 := hf 2 _ rfl
    have g3 := hf 3 _ rfl
    have g4 := hf 4 _ rfl
    have g5 := hf 5 _ rfl
    rw [List.getElem?_eq_getElem (by omega)] at g0 g1 g2 g3 g4 g5
    have k8 : Try.prog.cellsOf 5 = 1 := by kernel_rfl
    have ki : Try.prog.cellsOf 3 = 1 := by kernel_rfl
    have ks : Try.prog.cellsOf 52 = 1 := by kernel_rfl
    obtain ⟨zs, v0, e0, w0⟩ := rp_of_slice (R := rpInt .u8) Try.underlying52 (by kernel_rfl) (by decide) (fun _ _ _ => rp_of_int Try.underlying5) g0
    obtain ⟨n1, e1, w1⟩ := rp_of_int Try.underlying5 g1
    obtain ⟨n2, e2, w2⟩ := rp_of_int Try.underlying5 g2
    obtain ⟨n3, e3, w3⟩ := rp_of_int Try.underlying3 g3
    obtain ⟨n4, e4, w4⟩ := rp_of_int Try.underlying5 g4
    obtain ⟨n5, e5, w5⟩ := rp_of_int Try.underlying5 g5
    have e0' : ([c0, c1, c2, c3, c4, c5].drop 0).take (Try.prog.cellsOf 52) = [v0] := e0
    have e1' : ([c0, c1, c2, c3, c4, c5].drop 1).take (Try.prog.cellsOf 5) = [.int .u8 n1] := e1
    have e2' : ([c0, c1, c2, c3, c4, c5].drop 2).take (Try.prog.cellsOf 5) = [.int .u8 n2] := e2
    have e3' : ([c0, c1, c2, c3, c4, c5].drop 3).take (Try.prog.cellsOf 3) = [.int .i64 n3] := e3
    have e4' : ([c0, c1, c2, c3, c4, c5].drop 4).take (Try.prog.cellsOf 5) = [.int .u8 n4] := e4
    have e5' : ([c0, c1, c2, c3, c4, c5].drop 5).take (Try.prog.cellsOf 5) = [.int .u8 n5] := e5
    rw [ks] at e0'
    rw [k8] at e1' e2' e4' e5'
    rw [ki] at e3'
    have f0 : c0 = v0 := by simpa using e0'
    have f1 : c1 = .int .u8 n1 := by simpa using e1'
    have f2 : c2 = .int .u8 n2 := by simpa using e2'
    have f3 : c3 = .int .i64 n3 := by simpa using e3'
    have f4 : c4 = .int .u8 n4 := by simpa using e4'
    have f5 : c5 = .int .u8 n5 := by simpa using e5'
    obtain ⟨fs, hn, hfs⟩ := nats_of w0
    have b1 := wf_u8z w1
    have b2 := wf_u8z w2
    have b4 := wf_u8z w4
    have b5 := wf_u8z w5
    refine ⟨⟨fs, n1.toNat, n2.toNat, n3, n4.toNat, n5.toNat⟩, v0, ?_, hn, ⟨hfs, by dsimp only; omega, by dsimp only; omega, by dsimp only; omega, by dsimp only; omega, wf_i64z w3⟩⟩
    dsimp only
    rw [f0, f1, f2, f3, f4, f5, show ((n1.toNat : Nat) : Int) = n1 by omega, show ((n2.toNat : Nat) : Int) = n2 by omega, show ((n4.toNat : Nat) : Int) = n4 by omega, show ((n5.toNat : Nat) : Int) = n5 by omega]
end
set_option maxRecDepth 100000 in
theorem open_smalls {H : Type} {enc : TypeId × Value → H} {w : World} {v : Value} {d : DataW H} {ps : List MemPlace} (hv : Value.okWide Try.prog w .any 0 22 v) (h : DataW.Trod enc Try.prog w 0 (fun _ => true) true 22 v d ps) :
    ∃ l : List PSm, SlAt rpSm w v l := by
  obtain ⟨a, n, c, rfl⟩ := Go.WideShapes.okWide_slice Try.underlying22 hv
  obtain ⟨fuel, hf⟩ := h
  obtain ⟨l, u, e, hu⟩ := rp_of_slice (R := rpSm) Try.underlying22 (by kernel_rfl) (by decide) (fun _ _ _ => rp_of_sm) hf
  have e' : Value.slice a n c = u := by simpa [Value.cells] using e
  exact ⟨l, e' ▸ hu⟩
end Go.Proofs.Ytfkcldaogfengaa
end

section
/-
  The fee of a size at a rate, both ways. Conditions: none.
-/
namespace Go.Proofs.Ytfkcldaogfengaa
open Go.RowKit Go.BigFrame
set_option linter.unusedVariables false
set_option linter.unusedSimpArgs false

/-- The fee and the error. -/
def feeE (r s : Int) : Int × Int := if (0 ≤ r ∧ r ≤ 100000000) ∧ 0 ≤ s ∧ s ≤ 1000000 then ((r * s + 999) / 1000, 0) else (0, 3)
def PIs (z : Int × Int) (w : World) (e : Ending) (w' : World) : Prop := e = .returned (.tuple #[.int .i64 z.1, .int .i64 z.2]) ∧ w = w'
theorem mul_in {r s : Int} (h : (0 ≤ r ∧ r ≤ 100000000) ∧ 0 ≤ s ∧ s ≤ 1000000) : 0 ≤ r * s ∧ r * s ≤ 100000000000000 := by
  refine ⟨Int.mul_nonneg h.1.1 h.2.1, ?_⟩
  have := Int.mul_le_mul h.1.2 h.2.2 h.2.1 (show (0 : Int) ≤ 100000000 by decide)
  exact Int.le_trans this (by decide)
end Go.Proofs.Ytfkcldaogfengaa
end

section
/-
  cmp.Compare of whole numbers, cmp.Or of two. Conditions: none beyond each theorem's own.
-/
namespace Go.Proofs.Ytfkcldaogfengaa
open Go.RowKit Go.BigFrame
set_option linter.unusedVariables false
set_option linter.unusedSimpArgs false

def cmpN (a b : Nat) : Int := if a < b then -1 else if b < a then 1 else 0
set_option maxRecDepth 100000 in
set_option maxHeartbeats 1000000 in
theorem nan64_any (a : Nat) (w : World) : Calls Try.prog 62 #[.int .u64 a] w fun e w' => e = .returned (.bool false) ∧ w = w' := by
  go_enter Try.func62, Try.ntmps62
  go_wp2
  go_ret
  exact ⟨ret_bool (by simp), rfl⟩
set_option maxRecDepth 100000 in
set_option maxHeartbeats 1000000 in
theorem cmp64_any (a b : Nat) (w : World) : Calls Try.prog 45 #[.int .u64 a, .int .u64 b] w fun e w' => e = .returned (.int .i64 (cmpN a b)) ∧ w = w' := by
  obtain ⟨r, hr⟩ : ∃ r, r = cmpN a b := ⟨_, rfl⟩
  rw [← hr]
  have HR := Lib.hid hr
  have HA := Lib.hid (nan64_any a w)
  have HB := Lib.hid (nan64_any b w)
  clear hr
  go_enter Try.func45, Try.ntmps45
  by_cases h1 : a < b
  · have HE := Lib.hid (show cmpN a b = -1 by unfold cmpN; rw [if_pos h1])
    go_wp2_with fail
    refine HA.out.mono ?_
    rintro e w' ⟨rfl, rfl⟩
    go_wp2_with fail
    refine HB.out.mono ?_
    rintro e w' ⟨rfl, rfl⟩
    go_wp2_with fail
    go_ret
    exact ⟨by rw [HR.out, HE.out]; rfl, rfl⟩
  · by_cases h2 : b < a
    · have HE := Lib.hid (show cmpN a b = 1 by unfold cmpN; rw [if_neg h1, if_pos h2])
      go_wp2_with fail
      refine HA.out.mono ?_
      rintro e w' ⟨rfl, rfl⟩
      go_wp2_with fail
      refine HB.out.mono ?_
      rintro e w' ⟨rfl, rfl⟩
      go_wp2_with fail
      go_ret
      exact ⟨by rw [HR.out, HE.out]; rfl, rfl⟩
    · have HE := Lib.hid (show cmpN a b = 0 by unfold cmpN; rw [if_neg h1, if_neg h2])
      go_wp2_with fail
      refine HA.out.mono ?_
      rintro e w' ⟨rfl, rfl⟩
      go_wp2_with fail
      refine HB.out.mono ?_
      rintro e w' ⟨rfl, rfl⟩
      go_wp2_with fail
      go_ret
      exact ⟨by rw [HR.out, HE.out]; rfl, rfl⟩

def orI (x y : Int) : Int := if x = 0 then y else x
set_option maxRecDepth 100000 in
set_option maxHeartbeats 1000000 in
theorem or_any (b : Nat) (x y : Int) (w : World) (h0 : w.cell? ⟨b, 0, none⟩ = some (.int .i64 x)) (h1 : w.cell? ⟨b, 1, none⟩ = some (.int .i64 y)) :
    Calls Try.prog 44 #[.slice (some ⟨b, 0, none⟩) 2 2] w fun e w' => e = .returned (.int .i64 (orI x y)) ∧ w = w' := by
  obtain ⟨r, hr⟩ : ∃ r, r = orI x y := ⟨_, rfl⟩
  rw [← hr]
  have HR := Lib.hid hr
  clear hr
  go_enter Try.func44, Try.ntmps44
  go_wp2_with fail
  go_loopg [8] 2 (fun g i wr => ∃ k : Nat, g = 2 - k ∧ k ≤ 2 ∧ i = .int .i64 k ∧ wr = w ∧ Hid ((0 < k → x = 0) ∧ (1 < k → y = 0)))
  case atStart => exact ⟨0, rfl, by omega, rfl, rfl, Lib.hid ⟨fun h => absurd h (by omega), fun h => absurd h (by omega)⟩⟩
  case round =>
    rename World => wo
    obtain ⟨k, hgk, hk, rfl, rfl, hx⟩ := hrel
    have HGK := Lib.hid hgk
    clear hgk
    obtain rfl | rfl | rfl : k = 0 ∨ k = 1 ∨ k = 2 := by omega
    · by_cases hz : x = 0
      · subst hz
        go_wp2_with fail
        go_roundg 1
        case measure => have := HGK.out; omega
        case rel => exact ⟨1, rfl, by omega, by simp, by simp, Lib.hid (by simp)⟩
      · have HE := Lib.hid (show orI x y = x by unfold orI; rw [if_neg hz])
        go_wp2_with fail
        go_ret
        exact ⟨by rw [HR.out, HE.out]; rfl, rfl⟩
    · have hx0 := hx.out.1 (by omega)
      have HE := Lib.hid (show orI x y = y by unfold orI; rw [if_pos hx0])
      by_cases hz : y = 0
      · have HX := Lib.hid hx0
        clear hx0
        subst hz
        go_wp2_with fail
        go_roundg 0
        case measure => have := HGK.out; omega
        case rel => exact ⟨2, rfl, by omega, by simp, by simp, Lib.hid (by have := HX.out; simp [this])⟩
      · go_wp2_with fail
        go_ret
        exact ⟨by rw [HR.out, HE.out]; rfl, rfl⟩
    · have HE := Lib.hid (show orI x y = 0 by unfold orI; rw [if_pos (hx.out.1 (by omega)), hx.out.2 (by omega)])
      clear hx
      go_wp2_with fail
      go_ret
      exact ⟨by rw [HR.out, HE.out]; rfl, rfl⟩
end Go.Proofs.Ytfkcldaogfengaa
end

section
/-
  Which of two rates is greater. Conditions: the numbers are ints.
-/
namespace Go.Proofs.Ytfkcldaogfengaa
open Go.RowKit Go.BigFrame
set_option linter.unusedVariables false
set_option linter.unusedSimpArgs false

def pricedB (f s : Int) : Bool := goodA f && (decide (0 < s) && (decide (0 ≤ s) && decide (s ≤ 1000000)))
theorem priced_iff (f s : Int) : pricedB f s = true ↔ (0 ≤ f ∧ f ≤ 2100000000000000) ∧ 0 < s ∧ s ≤ 1000000 := by
  unfold pricedB
  rw [Bool.and_eq_true, goodA_iff]
  simp
  omega
set_option maxRecDepth 100000 in
set_option maxHeartbeats 1000000 in
theorem priced_any (f s : Int) (w : World) : Calls Try.prog 42 #[.int .i64 f, .int .i64 s] w fun e w' => e = .returned (.bool (pricedB f s)) ∧ w = w' := by
  obtain ⟨r, hr⟩ : ∃ r, r = pricedB f s := ⟨_, rfl⟩
  rw [← hr]
  unfold pricedB at hr
  have HG := Lib.hid (good_any f w)
  have HW := Lib.hid (awithin_any s 1000000 w)
  cases hf : goodA f
  · rw [hf] at HG hr
    have HR := Lib.hid hr
    clear hr hf HW
    go_enter Try.func42, Try.ntmps42
    go_wp2_with fail
    refine HG.out.mono ?_
    rintro e w' ⟨rfl, rfl⟩
    go_wp2_with fail
    go_ret
    exact ⟨by rw [HR.out]; rfl, rfl⟩
  · rw [hf] at HG hr
    by_cases hs : 0 < s
    · rw [decide_eq_true hs, decide_eq_true (Int.le_of_lt hs)] at hr
      have HR := Lib.hid hr
      have hs0 : 0 ≤ s := by omega
      rw [decide_eq_true hs0] at HW
      clear hr hf
      go_enter Try.func42, Try.ntmps42
      go_wp2_with fail
      refine HG.out.mono ?_
      rintro e w' ⟨rfl, rfl⟩
      go_wp2_with fail
      refine HW.out.mono ?_
      rintro e w' ⟨rfl, rfl⟩
      go_wp2_with fail
      go_ret
      exact ⟨ret_bool (by rw [HR.out]; simp), rfl⟩
    · rw [decide_eq_false hs] at hr
      have HR := Lib.hid hr
      clear hr hf HW
      go_enter Try.func42, Try.ntmps42
      go_wp2_with fail
      refine HG.out.mono ?_
      rintro e w' ⟨rfl, rfl⟩
      go_wp2_with fail
      go_ret
      exact ⟨ret_bool (by rw [HR.out]; rfl), rfl⟩
/-- The sign of a rate less another. -/
def cmpR (f s o i : Int) : Int := if pricedB f s && pricedB o i then cmpN (f * i).toNat (o * s).toNat else 0
theorem cmp_words (a b : Nat) : orI (cmpN (a / 18446744073709551616) (b / 18446744073709551616)) (cmpN (a % 18446744073709551616) (b % 18446744073709551616)) = cmpN a b := by
  unfold orI cmpN
  have h1 := Nat.div_add_mod a 18446744073709551616
  have h2 := Nat.div_add_mod b 18446744073709551616
  have h3 := Nat.mod_lt a (show 0 < 18446744073709551616 by decide)
  have h4 := Nat.mod_lt b (show 0 < 18446744073709551616 by decide)
  generalize a / 18446744073709551616 = p at *
  generalize b / 18446744073709551616 = q at *
  generalize a % 18446744073709551616 = r at *
  generalize b % 18446744073709551616 = u at *
  by_cases e1 : p < q
  · rw [if_pos e1, if_neg (by decide), if_pos (by omega)]
  · by_cases e2 : q < p
    · rw [if_neg e1, if_pos e2, if_neg (by decide), if_neg (by omega), if_pos (by omega)]
    · rw [if_neg e1, if_neg e2, if_pos rfl]
      by_cases e3 : r < u
      · rw [if_pos e3, if_pos (by omega)]
      · by_cases e4 : u < r
        · rw [if_neg e3, if_pos e4, if_neg (by omega), if_pos (by omega)]
        · rw [if_neg e3, if_neg e4, if_neg (by omega), if_neg (by omega)]
set_option maxRecDepth 100000 in
set_option maxHeartbeats 2000000 in
theorem compare_any (f s o i : Int) (w : World) : Calls Try.prog 25 #[.int .i64 f, .int .i64 s, .int .i64 o, .int .i64 i] w (fun e w' => e = .returned (.int .i64 (cmpR f s o i)) ∧ Below w.heap.size w w') := by
  have HP := Lib.hid (priced_any f s w)
  have HQ := Lib.hid (priced_any o i w)
  obtain ⟨r, hr⟩ : ∃ r, r = cmpR f s o i := ⟨_, rfl⟩
  rw [← hr]
  unfold cmpR at hr
  cases hp : pricedB f s
  · rw [hp] at HP hr
    have HR := Lib.hid hr
    clear hr hp HQ
    go_enter Try.func25, Try.ntmps25
    go_wp2_with fail
    refine HP.out.mono ?_
    rintro e w' ⟨rfl, rfl⟩
    go_wp2_with fail
    go_ret
    exact ⟨by rw [HR.out]; rfl, Below.refl _ _⟩
  · cases hq : pricedB o i
    · rw [hp] at HP hr
      rw [hq] at HQ hr
      have HR := Lib.hid hr
      clear hr hp hq
      go_enter Try.func25, Try.ntmps25
      go_wp2_with fail
      refine HP.out.mono ?_
      rintro e w' ⟨rfl, rfl⟩
      go_wp2_with fail
      refine HQ.out.mono ?_
      rintro e w' ⟨rfl, rfl⟩
      go_wp2_with fail
      go_ret
      exact ⟨by rw [HR.out]; rfl, Below.refl _ _⟩
    · obtain ⟨⟨p1, p2⟩, p3, p4⟩ := (priced_iff f s).1 hp
      obtain ⟨⟨q1, q2⟩, q3, q4⟩ := (priced_iff o i).1 hq
      rw [hp] at HP hr
      rw [hq] at HQ hr
      obtain ⟨F, rfl⟩ : ∃ F : Nat, f = F := ⟨f.toNat, by omega⟩
      obtain ⟨S, rfl⟩ : ∃ S : Nat, s = S := ⟨s.toNat, by omega⟩
      obtain ⟨O, rfl⟩ : ∃ O : Nat, o = O := ⟨o.toNat, by omega⟩
      obtain ⟨I, rfl⟩ : ∃ I : Nat, i = I := ⟨i.toNat, by omega⟩
      have HR := Lib.hid (show r = cmpN (F * I) (O * S) by rw [hr]; simp only [Bool.and_self, if_true]; congr 1)
      have HW := Lib.hid (cmp_words (F * I) (O * S))
      clear hr hp hq
      have b1 : F < 18446744073709551616 := by omega
      have b2 : S < 18446744073709551616 := by omega
      have b3 : O < 18446744073709551616 := by omega
      have b4 : I < 18446744073709551616 := by omega
      have HM := Lib.hid (Try.bits_Mul64 F I b1 b4 w)
      have HN := Lib.hid (Try.bits_Mul64 O S b3 b2 w)
      clear b1 b2 b3 b4
      generalize F * I / 18446744073709551616 = x1 at *
      generalize F * I % 18446744073709551616 = x2 at *
      generalize O * S / 18446744073709551616 = y1 at *
      generalize O * S % 18446744073709551616 = y2 at *
      have HC1 := Lib.hid (cmp64_any x1 y1 w)
      have HC2 := Lib.hid (cmp64_any x2 y2 w)
      have HO := Lib.hid (or_any w.heap.size (cmpN x1 y1) (cmpN x2 y2) (w.alloc (.cells #[.int .i64 (cmpN x1 y1), .int .i64 (cmpN x2 y2)] 3)) (cell_at (heap_alloc_new w _)) (cell_at (heap_alloc_new w _)))
      rw [HW.out] at HO
      generalize cmpN (F * I) (O * S) = z at *
      generalize cmpN x1 y1 = z1 at *
      generalize cmpN x2 y2 = z2 at *
      clear HW
      go_enter Try.func25, Try.ntmps25
      go_wp2_with fail
      refine HP.out.mono ?_
      rintro e w' ⟨rfl, rfl⟩
      go_wp2_with fail
      refine HQ.out.mono ?_
      rintro e w' ⟨rfl, rfl⟩
      go_wp2_with fail
      refine HM.out.mono ?_
      rintro e w' ⟨rfl, rfl⟩
      go_wp2_with fail
      refine HN.out.mono ?_
      rintro e w' ⟨rfl, rfl⟩
      go_wp2_with fail
      refine HC1.out.mono ?_
      rintro e w' ⟨rfl, rfl⟩
      go_wp2_with fail
      refine HC2.out.mono ?_
      rintro e w' ⟨rfl, rfl⟩
      go_wp2_with fail
      refine HO.out.mono ?_
      rintro e w' ⟨rfl, rfl⟩
      go_wp2_with fail
      go_ret
      exact ⟨by rw [HR.out]; rfl, (Below.refl _ _).alloc (Nat.le_refl _) _⟩
end Go.Proofs.Ytfkcldaogfengaa
end

section
/-
  Miner: which is best, what a template takes, as plain data. Conditions: none beyond each theorem's own.
-/
namespace Go.Proofs.Ytfkcldaogfengaa
open Go.RowKit
set_option linter.unusedVariables false
set_option linter.unusedSimpArgs false

structure Bst where
  at_ : Option Nat
  fee : Int
  size : Int
def bStep (sc : Nat → Int × Int) (skip : Nat → Bool) (s : Bst) (i : Nat) : Bst :=
  if skip i = true then s else if s.at_ = none ∨ 0 < cmpR (sc i).1 (sc i).2 s.fee s.size then ⟨some i, (sc i).1, (sc i).2⟩ else s
def bestL (sc : Nat → Int × Int) (skip : Nat → Bool) (n : Nat) : Bst := (List.range n).foldl (bStep sc skip) ⟨none, 0, 0⟩
theorem best_succ (sc : Nat → Int × Int) (skip : Nat → Bool) (n : Nat) : bestL sc skip (n + 1) = bStep sc skip (bestL sc skip n) n := by
  unfold bestL
  rw [List.range_succ, List.foldl_append]
  rfl
theorem best_none {sc : Nat → Int × Int} {skip : Nat → Bool} : ∀ {n : Nat}, (bestL sc skip n).at_ = none → ∀ i, i < n → skip i = true
  | 0, _, i, hi => absurd hi (Nat.not_lt_zero _)
  | n + 1, h, i, hi => by
    rw [best_succ] at h
    unfold bStep at h
    by_cases hs : skip n = true
    · rw [if_pos hs] at h
      rcases Nat.lt_or_ge i n with h1 | h1
      · exact best_none h i h1
      · obtain rfl : i = n := by omega
        exact hs
    · rw [if_neg hs] at h
      split at h
      · cases h
      · rename_i h2
        exact absurd (.inl h) h2
theorem best_some {sc : Nat → Int × Int} {skip : Nat → Bool} : ∀ {n i : Nat}, (bestL sc skip n).at_ = some i → i < n ∧ skip i = false ∧ (bestL sc skip n).fee = (sc i).1 ∧ (bestL sc skip n).size = (sc i).2
  | 0, i, h => by cases h
  | n + 1, i, h => by
    rw [best_succ] at h ⊢
    unfold bStep at h ⊢
    by_cases hs : skip n = true
    · rw [if_pos hs] at h ⊢
      obtain ⟨h1, h2⟩ := best_some h
      exact ⟨by omega, h2⟩
    · rw [if_neg hs] at h ⊢
      split at h
      · rename_i h2
        rw [if_pos h2]
        cases h
        exact ⟨by omega, by simpa using hs, rfl, rfl⟩
      · rename_i h2
        rw [if_neg h2]
        obtain ⟨h3, h4⟩ := best_some h
        exact ⟨by omega, h4⟩
theorem best_all {sc : Nat → Int × Int} {skip : Nat → Bool} {n : Nat} (h : ∀ i, i < n → skip i = true) : (bestL sc skip n).at_ = none := by
  cases hb : (bestL sc skip n).at_ with
  | none => rfl
  | some i =>
    obtain ⟨h1, h2, -⟩ := best_some hb
    rw [h i h1] at h2
    cases h2

structure TS where
  taken : List Nat
  passed : List Nat
  most : Int
def skipOf (s : TS) (i : Nat) : Bool := s.taken.contains i || s.passed.contains i
noncomputable def bestOf (l : List PE) (s : TS) : Bst := bestL (scoreOf l s.taken) (skipOf s) l.length
def lowB (fee size thr : Int) : Bool := decide (0 < thr) && decide (cmpR fee size (min thr 2100000000000000) 1000 < 0)
noncomputable def someOf (l : List PE) (s : TS) (i : Nat) : List Nat := bundL l i fun k => s.taken.contains k
def badB (s : TS) (size : Int) (ps : List Nat) : Bool := decide (s.most < size) || ps.any fun k => s.passed.contains k
noncomputable def tStep (l : List PE) (thr : Int) (s : TS) : Option TS :=
  match (bestOf l s).at_ with
  | none => none
  | some i => if lowB (bestOf l s).fee (bestOf l s).size thr = true then none
    else if badB s (bestOf l s).size (someOf l s i) = true then some ⟨s.taken, s.passed ++ [i], s.most⟩
    else some ⟨s.taken ++ someOf l s i, s.passed, s.most - (bestOf l s).size⟩
noncomputable def tRun (l : List PE) (thr : Int) : Nat → TS → TS
  | 0, s => s
  | f + 1, s => match tStep l thr s with
    | none => s
    | some s' => tRun l thr f s'
def leftN (n : Nat) (ps : List Nat) : Nat := ((List.range n).filter fun i => !ps.contains i).length
def leftS (n : Nat) (s : TS) : Nat := leftN n s.taken + leftN n s.passed
theorem filter_le {p q : Nat → Bool} (h : ∀ x, q x = true → p x = true) : ∀ l : List Nat, (l.filter q).length ≤ (l.filter p).length
  | [] => Nat.le_refl _
  | x :: l => by
    have := filter_le h l
    have hx := h x
    cases hq : q x <;> cases hp : p x <;> simp [hq, hp]
    · exact this
    · omega
    · rw [hq, hp] at hx; exact absurd (hx rfl) (by decide)
    · exact this
theorem filter_lt {p q : Nat → Bool} (h : ∀ x, q x = true → p x = true) : ∀ {l : List Nat} {i : Nat}, i ∈ l → p i = true → q i = false → (l.filter q).length < (l.filter p).length
  | [], i, hi, _, _ => by simp at hi
  | x :: l, i, hi, h1, h2 => by
    have hle := filter_le h l
    rcases List.mem_cons.1 hi with rfl | hi
    · simp [h1, h2]; omega
    · have := filter_lt h hi h1 h2
      have hx := h x
      cases hq : q x <;> cases hp : p x <;> simp [hq, hp]
      · exact this
      · omega
      · rw [hq, hp] at hx; exact absurd (hx rfl) (by decide)
      · exact this
theorem left_app_le (n : Nat) (ps qs : List Nat) : leftN n (ps ++ qs) ≤ leftN n ps := by
  refine filter_le (fun x hx => ?_) _
  simp at hx ⊢
  exact hx.1
theorem left_app_lt {n i : Nat} {ps qs : List Nat} (hi : i < n) (h1 : i ∉ ps) (h2 : i ∈ qs) : leftN n (ps ++ qs) < leftN n ps := by
  refine filter_lt (fun x hx => ?_) (List.mem_range.2 hi) (by simpa using h1) (by simp [h2])
  simp at hx ⊢
  exact hx.1
theorem skip_not {s : TS} {i : Nat} (h : skipOf s i = false) : i ∉ s.taken ∧ i ∉ s.passed := by
  unfold skipOf at h
  rw [Bool.or_eq_false_iff] at h
  simpa using h
theorem some_self {l : List PE} {s : TS} {i : Nat} (hi : i < l.length) (h : i ∉ s.taken) : i ∈ someOf l s i := mem_bundL.2 ⟨hi, .self, by simpa using h⟩
theorem tStep_left {l : List PE} {thr : Int} {s s' : TS} (h : tStep l thr s = some s') : leftS l.length s' < leftS l.length s := by
  unfold tStep at h
  cases hb : (bestOf l s).at_ with
  | none => rw [hb] at h; cases h
  | some i =>
    rw [hb] at h
    dsimp only at h
    obtain ⟨h1, h2, -⟩ := best_some hb
    obtain ⟨h3, h4⟩ := skip_not h2
    split at h
    · cases h
    · split at h
      · cases h
        have := left_app_lt (ps := s.passed) (qs := [i]) h1 h4 (by simp)
        unfold leftS
        dsimp only
        omega
      · cases h
        have := left_app_lt (ps := s.taken) (qs := someOf l s i) h1 h3 (some_self h1 h3)
        unfold leftS
        dsimp only
        omega
theorem tStep_zero {l : List PE} {thr : Int} {s : TS} (h : leftS l.length s = 0) : tStep l thr s = none := by
  cases hs : tStep l thr s with
  | none => rfl
  | some s' => have := tStep_left hs; omega
theorem tRun_more {l : List PE} {thr : Int} : ∀ {f g : Nat} {s : TS}, leftS l.length s ≤ f → f ≤ g → tRun l thr g s = tRun l thr f s
  | 0, 0, s, _, _ => rfl
  | 0, g + 1, s, h, _ => by
    show (match tStep l thr s with | none => s | some s' => tRun l thr g s') = s
    rw [tStep_zero (by omega)]
  | f + 1, 0, s, _, h => absurd h (by omega)
  | f + 1, g + 1, s, h, hg => by
    show (match tStep l thr s with | none => s | some s' => tRun l thr g s') = (match tStep l thr s with | none => s | some s' => tRun l thr f s')
    cases hs : tStep l thr s with
    | none => rfl
    | some s' =>
      have := tStep_left hs
      exact tRun_more (by omega) (by omega)
/-- What a template comes to. -/
noncomputable def tEnd (l : List PE) (thr : Int) (s : TS) : TS := tRun l thr (leftS l.length s) s
theorem tEnd_none {l : List PE} {thr : Int} {s : TS} (h : tStep l thr s = none) : tEnd l thr s = s := by
  unfold tEnd
  cases leftS l.length s with
  | zero => rfl
  | succ f =>
    show (match tStep l thr s with | none => s | some s' => tRun l thr f s') = s
    rw [h]
theorem tEnd_some {l : List PE} {thr : Int} {s s' : TS} (h : tStep l thr s = some s') : tEnd l thr s = tEnd l thr s' := by
  have hl := tStep_left h
  unfold tEnd
  cases hf : leftS l.length s with
  | zero => omega
  | succ f =>
    show (match tStep l thr s with | none => s | some s' => tRun l thr f s') = _
    rw [h]
    exact tRun_more (Nat.le_refl _) (by omega)
noncomputable def tmplL (l : List PE) (thr most : Int) : List Nat := (tEnd l thr ⟨[], [], most⟩).taken
theorem leftN_nil (n : Nat) : leftN n [] = n := by
  unfold leftN
  rw [List.filter_eq_self.2 (fun x _ => by rfl), List.length_range]
theorem leftS_start (n : Nat) (most : Int) : leftS n ⟨[], [], most⟩ = 2 * n := by
  unfold leftS
  dsimp only
  rw [leftN_nil]
  omega
end Go.Proofs.Ytfkcldaogfengaa
end

section
/-
  Miner: what holds of every template, as plain data. Conditions: entries of bounded fees and sizes.
-/
namespace Go.Proofs.Ytfkcldaogfengaa
open Go.RowKit
set_option linter.unusedVariables false
set_option linter.unusedSimpArgs false

/-! ### rates -/
theorem cmpR_yes {f s o i : Int} (h1 : pricedB f s = true) (h2 : pricedB o i = true) : cmpR f s o i = cmpN (f * i).toNat (o * s).toNat := by
  unfold cmpR; rw [h1, h2]; rfl
theorem mul_toNat {a b c d : Int} (h1 : 0 ≤ a) (h2 : 0 ≤ b) (h3 : 0 ≤ c) (h4 : 0 ≤ d) : ((a * b).toNat < (c * d).toNat ↔ a * b < c * d) := by
  have := Int.mul_nonneg h1 h2
  have := Int.mul_nonneg h3 h4
  omega
theorem cmpR_pos {f s o i : Int} (h1 : pricedB f s = true) (h2 : pricedB o i = true) : 0 < cmpR f s o i ↔ o * s < f * i := by
  rw [cmpR_yes h1 h2]
  obtain ⟨⟨a1, a2⟩, a3, a4⟩ := (priced_iff _ _).1 h1
  obtain ⟨⟨b1, b2⟩, b3, b4⟩ := (priced_iff _ _).1 h2
  rw [← mul_toNat b1 (by omega) a1 (by omega)]
  unfold cmpN
  split
  · constructor
    · intro h; exact absurd h (by decide)
    · intro h; omega
  · split
    · exact ⟨fun _ => by assumption, fun _ => by decide⟩
    · constructor
      · intro h; exact absurd h (by decide)
      · intro h; omega
theorem cmpR_neg {f s o i : Int} (h1 : pricedB f s = true) (h2 : pricedB o i = true) : cmpR f s o i < 0 ↔ f * i < o * s := by
  rw [cmpR_yes h1 h2]
  obtain ⟨⟨a1, a2⟩, a3, a4⟩ := (priced_iff _ _).1 h1
  obtain ⟨⟨b1, b2⟩, b3, b4⟩ := (priced_iff _ _).1 h2
  rw [← mul_toNat a1 (by omega) b1 (by omega)]
  unfold cmpN
  split
  · exact ⟨fun _ => by assumption, fun _ => by decide⟩
  · split
    · constructor
      · intro h; exact absurd h (by decide)
      · intro h; omega
    · constructor
      · intro h; exact absurd h (by decide)
      · intro h; omega
theorem cmpR_bad {f s o i : Int} (h : pricedB f s = false ∨ pricedB o i = false) : cmpR f s o i = 0 := by
  unfold cmpR
  rcases h with h | h <;> rw [h] <;> simp
/-- Of rates a / b: no greater. -/
def LeR (p q : Int × Int) : Prop := p.1 * q.2 ≤ q.1 * p.2
theorem LeR.trans {p q r : Int × Int} (hp : 0 < p.2) (hq : 0 < q.2) (hr : 0 < r.2) (h1 : LeR p q) (h2 : LeR q r) : LeR p r := by
  unfold LeR at *
  have e1 : p.1 * q.2 * r.2 ≤ q.1 * p.2 * r.2 := Int.mul_le_mul_of_nonneg_right h1 (Int.le_of_lt hr)
  have e2 : q.1 * r.2 * p.2 ≤ r.1 * q.2 * p.2 := Int.mul_le_mul_of_nonneg_right h2 (Int.le_of_lt hp)
  have e3 : (p.1 * r.2) * q.2 ≤ (r.1 * p.2) * q.2 := by
    calc (p.1 * r.2) * q.2 = p.1 * q.2 * r.2 := by rw [Int.mul_assoc, Int.mul_assoc, Int.mul_comm r.2 q.2]
      _ ≤ q.1 * p.2 * r.2 := e1
      _ = q.1 * r.2 * p.2 := by rw [Int.mul_assoc, Int.mul_assoc, Int.mul_comm p.2 r.2]
      _ ≤ r.1 * q.2 * p.2 := e2
      _ = (r.1 * p.2) * q.2 := by rw [Int.mul_assoc, Int.mul_assoc, Int.mul_comm q.2 p.2]
  exact Int.le_of_mul_le_mul_right e3 hq
theorem best_max {sc : Nat → Int × Int} {skip : Nat → Bool} : ∀ {n b : Nat}, (∀ i, i < n → skip i = false → pricedB (sc i).1 (sc i).2 = true) → (bestL sc skip n).at_ = some b →
    (∀ j, j < n → skip j = false → LeR (sc j) (sc b)) ∧ ∀ j, j < b → skip j = false → ¬ LeR (sc b) (sc j)
  | 0, b, _, h => by cases h
  | n + 1, b, hp, h => by
    have hp' : ∀ i, i < n → skip i = false → pricedB (sc i).1 (sc i).2 = true := fun i hi => hp i (by omega)
    rw [best_succ] at h
    unfold bStep at h
    by_cases hs : skip n = true
    · rw [if_pos hs] at h
      obtain ⟨h1, h2⟩ := best_max hp' h
      refine ⟨fun j hj hjs => ?_, h2⟩
      rcases Nat.lt_or_ge j n with h3 | h3
      · exact h1 j h3 hjs
      · obtain rfl : j = n := by omega
        rw [hs] at hjs; cases hjs
    · have hsn : skip n = false := by simpa using hs
      have hpn := hp n (by omega) hsn
      have hn2 := ((priced_iff _ _).1 hpn).2.1
      rw [if_neg hs] at h
      cases hb : (bestL sc skip n).at_ with
      | none =>
        rw [if_pos (.inl hb)] at h
        cases h
        have hall := best_none hb
        refine ⟨fun j hj hjs => ?_, fun j hj hjs => ?_⟩
        · rcases Nat.lt_or_ge j n with h3 | h3
          · rw [hall j h3] at hjs; cases hjs
          · obtain rfl : j = n := by omega
            exact Int.le_refl _
        · rw [hall j hj] at hjs; cases hjs
      | some q =>
        obtain ⟨g1, g2, g3, g4⟩ := best_some hb
        obtain ⟨h1, h2⟩ := best_max hp' hb
        have hpq := hp' q g1 g2
        have hq2 := ((priced_iff _ _).1 hpq).2.1
        rw [g3, g4] at h
        by_cases hc : 0 < cmpR (sc n).1 (sc n).2 (sc q).1 (sc q).2
        · rw [if_pos (.inr hc)] at h
          cases h
          rw [cmpR_pos hpn hpq] at hc
          have hqn : LeR (sc q) (sc n) := Int.le_of_lt hc
          refine ⟨fun j hj hjs => ?_, fun j hj hjs hle => ?_⟩
          · rcases Nat.lt_or_ge j n with h3 | h3
            · exact LeR.trans ((priced_iff _ _).1 (hp' j h3 hjs)).2.1 hq2 hn2 (h1 j h3 hjs) hqn
            · obtain rfl : j = n := by omega
              exact Int.le_refl _
          · have := LeR.trans hn2 ((priced_iff _ _).1 (hp' j hj hjs)).2.1 hq2 hle (h1 j hj hjs)
            unfold LeR at this
            omega
        · rw [if_neg (by rintro (e | e); rw [hb] at e; cases e; exact hc e)] at h
          rw [cmpR_pos hpn hpq] at hc
          rw [hb] at h
          cases h
          refine ⟨fun j hj hjs => ?_, h2⟩
          rcases Nat.lt_or_ge j n with h3 | h3
          · exact h1 j h3 hjs
          · obtain rfl : j = n := by omega
            unfold LeR; omega

/-! ### sums -/
theorem sumS_from (l : List PE) : ∀ (ps : List Nat) (s : Int × Int), ps.foldl (sumS l) s = (s.1 + (feeL l ps).1, s.2 + (feeL l ps).2)
  | [], s => by simp [feeL]
  | p :: r, s => by
    unfold feeL
    rw [List.foldl_cons, List.foldl_cons, sumS_from l r, sumS_from l r (sumS l (0, 0) p)]
    unfold sumS
    cases l[p]? with
    | none => simp
    | some x => simp only [Prod.mk.injEq]; exact ⟨by omega, by omega⟩
theorem feeL_app (l : List PE) (ps qs : List Nat) : feeL l (ps ++ qs) = ((feeL l ps).1 + (feeL l qs).1, (feeL l ps).2 + (feeL l qs).2) := by
  rw [feeL, List.foldl_append]
  exact sumS_from l qs (feeL l ps)
theorem feeL_one {l : List PE} {i : Nat} {x : PE} (h : l[i]? = some x) : feeL l [i] = (x.fee, x.size) := by simp [feeL, sumS, h]
theorem feeL_cons {l : List PE} {i : Nat} {x : PE} (h : l[i]? = some x) (ps : List Nat) : feeL l (i :: ps) = (x.fee + (feeL l ps).1, x.size + (feeL l ps).2) := by
  rw [show i :: ps = [i] ++ ps from rfl, feeL_app, feeL_one h]
structure Sized (l : List PE) : Prop where
  len : l.length ≤ 12
  fee : ∀ x ∈ l, 0 ≤ x.fee ∧ x.fee ≤ 4294967295
  size : ∀ x ∈ l, 1 ≤ x.size ∧ x.size ≤ 2000
theorem feeL_bd {l : List PE} (h : Sized l) : ∀ {ps : List Nat}, (∀ i ∈ ps, i < l.length) → 0 ≤ (feeL l ps).1 ∧ (feeL l ps).1 ≤ 4294967295 * ps.length ∧ (ps.length : Int) ≤ (feeL l ps).2 ∧ (feeL l ps).2 ≤ 2000 * ps.length
  | [], _ => by simp [feeL]
  | i :: r, hp => by
    have hi : i < l.length := hp i (List.mem_cons_self ..)
    obtain ⟨a1, a2, a3, a4⟩ := feeL_bd h (ps := r) fun j hj => hp j (List.mem_cons_of_mem _ hj)
    rw [feeL_cons (List.getElem?_eq_getElem hi)]
    have h1 := h.fee _ (List.getElem_mem hi)
    have h2 := h.size _ (List.getElem_mem hi)
    simp only [List.length_cons]
    refine ⟨by omega, by omega, by omega, by omega⟩
theorem sum_priced {l : List PE} (h : Sized l) {ps : List Nat} (hn : ps.Nodup) (hl : ∀ i ∈ ps, i < l.length) (h0 : ps ≠ []) : pricedB (feeL l ps).1 (feeL l ps).2 = true := by
  obtain ⟨a1, a2, a3, a4⟩ := feeL_bd h hl
  have := nodup_len hn hl
  have := h.len
  have : 0 < ps.length := List.length_pos_iff.2 h0
  rw [priced_iff]
  omega
theorem score_priced {l : List PE} (h : Sized l) {taken : List Nat} {i : Nat} (hi : i < l.length) (ht : i ∉ taken) : pricedB (scoreOf l taken i).1 (scoreOf l taken i).2 = true :=
  sum_priced h (bundL_nodup _ _ _) (fun k hk => (mem_bundL.1 hk).1) (List.ne_nil_of_mem (mem_bundL.2 ⟨hi, .self, by simpa using ht⟩))

/-! ### steps -/
theorem tStep_cases {l : List PE} {thr : Int} {s s' : TS} (h : tStep l thr s = some s') : ∃ i, (bestOf l s).at_ = some i ∧ i < l.length ∧ i ∉ s.taken ∧ i ∉ s.passed ∧ (bestOf l s).fee = (scoreOf l s.taken i).1 ∧ (bestOf l s).size = (scoreOf l s.taken i).2 ∧
    lowB (scoreOf l s.taken i).1 (scoreOf l s.taken i).2 thr = false ∧
    ((badB s (scoreOf l s.taken i).2 (someOf l s i) = true ∧ s' = ⟨s.taken, s.passed ++ [i], s.most⟩) ∨ (badB s (scoreOf l s.taken i).2 (someOf l s i) = false ∧ s' = ⟨s.taken ++ someOf l s i, s.passed, s.most - (scoreOf l s.taken i).2⟩)) := by
  unfold tStep at h
  cases hb : (bestOf l s).at_ with
  | none => rw [hb] at h; cases h
  | some i =>
    rw [hb] at h
    dsimp only at h
    obtain ⟨h1, h2, h5, h6⟩ := best_some hb
    obtain ⟨h3, h4⟩ := skip_not h2
    have e5 : (bestOf l s).fee = (scoreOf l s.taken i).1 := h5
    have e6 : (bestOf l s).size = (scoreOf l s.taken i).2 := h6
    rw [e5, e6] at h
    refine ⟨i, rfl, h1, h3, h4, e5, e6, ?_⟩
    split at h
    · cases h
    · rename_i hlo
      refine ⟨by simpa using hlo, ?_⟩
      split at h
      · rename_i hba
        cases h
        exact .inl ⟨hba, rfl⟩
      · rename_i hba
        cases h
        exact .inr ⟨by simpa using hba, rfl⟩
theorem tStep_ends {l : List PE} {thr : Int} {s : TS} (h : tStep l thr s = none) : (∀ i, i < l.length → skipOf s i = true) ∨ ∃ i, (bestOf l s).at_ = some i ∧ i < l.length ∧ skipOf s i = false ∧ lowB (scoreOf l s.taken i).1 (scoreOf l s.taken i).2 thr = true := by
  unfold tStep at h
  cases hb : (bestOf l s).at_ with
  | none => exact .inl (best_none hb)
  | some i =>
    rw [hb] at h
    dsimp only at h
    obtain ⟨h1, h2, h5, h6⟩ := best_some hb
    have e5 : (bestOf l s).fee = (scoreOf l s.taken i).1 := h5
    have e6 : (bestOf l s).size = (scoreOf l s.taken i).2 := h6
    rw [e5, e6] at h
    refine .inr ⟨i, rfl, h1, h2, ?_⟩
    split at h
    · assumption
    · split at h <;> cases h
theorem tEnd_ind {l : List PE} {thr : Int} {P : TS → Prop} (hs : ∀ s s', P s → tStep l thr s = some s' → P s') : ∀ {f : Nat} {s : TS}, leftS l.length s ≤ f → P s → P (tEnd l thr s) ∧ tStep l thr (tEnd l thr s) = none
  | f, s, hf, h0 => by
    cases ht : tStep l thr s with
    | none => rw [tEnd_none ht]; exact ⟨h0, ht⟩
    | some s' =>
      rw [tEnd_some ht]
      have hl := tStep_left ht
      cases f with
      | zero => omega
      | succ f => exact tEnd_ind hs (f := f) (by omega) (hs s s' h0 ht)
structure Inv (l : List PE) (m0 : Int) (s : TS) : Prop where
  nodup : s.taken.Nodup
  lt : ∀ i ∈ s.taken, i < l.length
  shut : ∀ i ∈ s.taken, ∀ k, edge l i k = true → k ∈ s.taken
  sum : (feeL l s.taken).2 + s.most = m0
theorem Inv.start (l : List PE) (m0 : Int) : Inv l m0 ⟨[], [], m0⟩ := ⟨List.nodup_nil, fun i hi => by simp at hi, fun i hi => by simp at hi, by simp [feeL]⟩
theorem some_taken {l : List PE} {m0 : Int} {s : TS} (h : Inv l m0 s) {i : Nat} : (s.taken ++ someOf l s i).Nodup ∧ (∀ k ∈ s.taken ++ someOf l s i, k < l.length) ∧ (∀ x ∈ s.taken ++ someOf l s i, ∀ k, edge l x k = true → k ∈ s.taken ++ someOf l s i) := by
  refine ⟨List.nodup_append.2 ⟨h.nodup, bundL_nodup _ _ _, fun a ha b hb e => ?_⟩, fun k hk => ?_, fun x hx k he => ?_⟩
  · subst e
    have := (mem_bundL.1 hb).2.2
    simp [ha] at this
  · rcases List.mem_append.1 hk with hk | hk
    · exact h.lt k hk
    · exact (mem_bundL.1 hk).1
  · rcases List.mem_append.1 hx with hx | hx
    · exact List.mem_append_left _ (h.shut x hx k he)
    · by_cases hk : k ∈ s.taken
      · exact List.mem_append_left _ hk
      · obtain ⟨h1, h2, h3⟩ := mem_bundL.1 hx
        exact List.mem_append_right _ (mem_bundL.2 ⟨(edge_lt he).2, .step h2 he, by simpa using hk⟩)
theorem Inv.step {l : List PE} {m0 thr : Int} {s s' : TS} (h : Inv l m0 s) (ht : tStep l thr s = some s') : Inv l m0 s' := by
  obtain ⟨i, -, h1, h2, h3, -, -, -, ⟨-, rfl⟩ | ⟨-, rfl⟩⟩ := tStep_cases ht
  · exact ⟨h.nodup, h.lt, h.shut, h.sum⟩
  · obtain ⟨g1, g2, g3⟩ := some_taken h (i := i)
    refine ⟨g1, g2, g3, ?_⟩
    have e := h.sum
    have e2 : (scoreOf l s.taken i).2 = (feeL l (someOf l s i)).2 := rfl
    rw [feeL_app]
    dsimp only
    rw [e2]
    omega
theorem tEnd_inv (l : List PE) (thr m0 : Int) : Inv l m0 (tEnd l thr ⟨[], [], m0⟩) ∧ tStep l thr (tEnd l thr ⟨[], [], m0⟩) = none :=
  tEnd_ind (P := Inv l m0) (fun s s' h ht => h.step ht) (Nat.le_refl _) (Inv.start l m0)
/-- With room for all nothing is passed by. -/
structure Roomy (l : List PE) (s : TS) : Prop where
  inv : Inv l 1000000 s
  none : s.passed = []
theorem Roomy.fits {l : List PE} {s : TS} (hz : Sized l) (h : Roomy l s) (i : Nat) : badB s (scoreOf l s.taken i).2 (someOf l s i) = false := by
  obtain ⟨g1, g2, -⟩ := some_taken h.inv (i := i)
  have a := feeL_bd hz h.inv.lt
  have b := feeL_bd hz (ps := someOf l s i) fun k hk => (mem_bundL.1 hk).1
  have c1 := nodup_len h.inv.nodup h.inv.lt
  have c2 := nodup_len (bundL_nodup l i fun k => s.taken.contains k) fun k hk => (mem_bundL.1 hk).1
  have e := h.inv.sum
  have e2 : (scoreOf l s.taken i).2 = (feeL l (someOf l s i)).2 := rfl
  have c3 : (someOf l s i).length ≤ l.length := c2
  have hl := hz.len
  unfold badB
  rw [h.none, e2, decide_eq_false (by omega), Bool.false_or, List.any_eq_false]
  intro k _
  simp
theorem Roomy.step {l : List PE} {thr : Int} {s s' : TS} (hz : Sized l) (h : Roomy l s) (ht : tStep l thr s = some s') : Roomy l s' := by
  refine ⟨h.inv.step ht, ?_⟩
  obtain ⟨i, -, -, -, -, -, -, -, ⟨hb, rfl⟩ | ⟨-, rfl⟩⟩ := tStep_cases ht
  · rw [h.fits hz i] at hb; cases hb
  · exact h.none
theorem Roomy.start (l : List PE) : Roomy l ⟨[], [], 1000000⟩ := ⟨Inv.start l _, rfl⟩
theorem tEnd_roomy {l : List PE} (thr : Int) (hz : Sized l) : Roomy l (tEnd l thr ⟨[], [], 1000000⟩) ∧ tStep l thr (tEnd l thr ⟨[], [], 1000000⟩) = none :=
  tEnd_ind (P := Roomy l) (fun s s' h ht => h.step hz ht) (Nat.le_refl _) (Roomy.start l)
end Go.Proofs.Ytfkcldaogfengaa
end

section
/-
  Lists of places: is one there, sums of entries. Conditions: the lists lie in memory.
-/
namespace Go.Proofs.Ytfkcldaogfengaa
open Go.RowKit Go.BigFrame
set_option linter.unusedVariables false
set_option linter.unusedSimpArgs false

theorem wf_i64_of {n : Int} (h : -9223372036854775808 ≤ n ∧ n ≤ 9223372036854775807) : (Lit.int .i64 n).wf = true := by simpa [Lit.wf, IntKind.min, IntKind.max, IntKind.signed, IntKind.bits] using h
/-- A list of ints lies in memory. -/
def IntsAt (w : World) (v : Value) (zs : List Int) : Prop := SlAt (rpInt .i64) w v zs
theorem IntsAt.below {w w' : World} {v : Value} {zs : List Int} (h : IntsAt w v zs) (hb : Below w.heap.size w w') : IntsAt w' v zs := SlAt.below h hb
theorem IntsAt.cell {w : World} {a : Option Addr} {n c i : Nat} {zs : List Int} (h : IntsAt w (.slice a n c) zs) (hi : i < n) : ∃ (b o : Nat) (x : Int), a = some ⟨b, o, none⟩ ∧ zs[i]? = some x ∧ w.cell? ⟨b, o + i, none⟩ = some (.int .i64 x) := by
  obtain ⟨b, o, x, cs, h1, h2, h3, h4, h5, h6⟩ := SlAt.at h hi
  subst h5
  refine ⟨b, o, x, h1, h2, ?_⟩
  have := h4 0 _ rfl
  simpa [rpInt] using this
theorem cont_any (v : Value) (zs : List Int) (x : Int) (w : World) (hv : IntsAt w v zs) : Calls Try.prog 28 #[v, .int .i64 x] w fun e w' => e = .returned (.bool (zs.contains x)) ∧ w = w' := by
  obtain ⟨a, c, rfl, h1, h2⟩ := SlAt.shape hv
  rw [maxLen_eq] at h2
  cases hz : zs with
  | nil => exact (Try.slices_Contains_int_empty a c x w).mono fun e w' ⟨h, h'⟩ => ⟨h, h'.symm⟩
  | cons z r =>
    rw [← hz]
    have h0 : 0 < zs.length := by rw [hz]; simp
    obtain ⟨b, o, y, rfl, -, -⟩ := IntsAt.cell hv h0
    refine (Try.slices_Contains_int b o zs.length c zs x w (Nat.le_refl _) (by omega) fun j hj => ?_).mono fun e w' ⟨h, h'⟩ => ⟨by rw [h, List.take_length], h'.symm⟩
    obtain ⟨b', o', y', e1, e2, e3⟩ := IntsAt.cell hv hj
    obtain ⟨rfl, rfl⟩ : b = b' ∧ o = o' := by simpa using e1
    rw [e3, List.getD_eq_getElem?_getD, e2]
    rfl
theorem nat_contains (q : List Nat) (k : Nat) : (q.map natI).contains (natI k) = q.contains k := by
  rw [Bool.eq_iff_iff]
  simp only [List.contains_iff_mem]
  constructor
  · intro h
    obtain ⟨j, hj, e⟩ := List.mem_map.1 h
    rw [← natI_inj e]
    exact hj
  · intro h
    exact List.mem_map.2 ⟨k, h, rfl⟩
/-- A row of the call's own that holds these places. -/
def NatRow (base : Nat) (w : World) (v : Value) (q : List Nat) : Prop := w.ownsRow base 3 1 v q.length ((q.map natI).map (Value.int .i64))
theorem NatRow.ints {base : Nat} {w : World} {v : Value} {q : List Nat} (h : NatRow base w v q) (hq : ∀ k ∈ q, k < 4611686018427387904) : IntsAt w v (q.map natI) := by
  obtain ⟨a, c, e, h1, h2⟩ := ownsRow_shape h
  subst e
  refine ⟨a, c, by rw [List.length_map], by rw [List.length_map]; exact h1, h2, fun i x hi => ?_⟩
  have hil : i < q.length := by have := (List.getElem?_eq_some_iff.1 hi).1; simpa using this
  obtain ⟨b, rfl, hb, hb2⟩ := ownsRow_some h (by omega)
  refine ⟨b, 0, [.int .i64 x], rfl, rfl, fun j u hj => ?_, rfl, ?_⟩
  · match j, hj with
    | 0, hj =>
      simp at hj
      subst hj
      have := h.cells (g := b) rfl i (.int .i64 x) (by rw [List.getElem?_map, hi]; rfl)
      rw [Addr.add_lit] at this
      simpa [rpInt] using this
  · have hx := List.mem_of_getElem? hi
    obtain ⟨k, hk, rfl⟩ := List.mem_map.1 hx
    have := hq k hk
    exact wf_i64_of (by unfold natI; omega)
theorem NatRow.below {base : Nat} {w w' : World} {v : Value} {q : List Nat} (h : NatRow base w v q) (hb : Below w.heap.size w w') : NatRow base w' v q := ownsRow_below h hb
theorem NatRow.nil (base : Nat) (w : World) : NatRow base w (.slice none 0 0) [] := World.ownsRow_nil _ _ _ _
def NN (p : Int × Int) (w : World) (e : Ending) (w' : World) : Prop := e = .returned (.tuple #[.int .i64 p.1, .int .i64 p.2]) ∧ Below w.heap.size w w'
theorem feeL_take {l : List PE} {ps : List Nat} {k i : Nat} {x : PE} (hk : ps[k]? = some i) (hx : l[i]? = some x) : feeL l (ps.take (k + 1)) = ((feeL l (ps.take k)).1 + x.fee, (feeL l (ps.take k)).2 + x.size) := by
  rw [take_snoc hk, feeL_app, feeL_one hx]
set_option maxRecDepth 100000 in
set_option maxHeartbeats 2000000 in
theorem msum_any (sl v : Value) (l : List PE) (ps : List Nat) (w : World) (hsl : SlAt rpE w sl l) (hv : IntsAt w v (ps.map natI)) (hz : Sized l) (hp : ∀ i ∈ ps, i < l.length) (hn : ps.length ≤ 100) :
    Calls Try.prog 22 #[sl, v] w (NN (feeL l ps) w) := by
  have HSL := Lib.hid hsl
  have HV := Lib.hid hv
  obtain ⟨a, c, rfl, hl1, hl2⟩ := hsl.shape
  obtain ⟨a', c', rfl, hq1, hq2⟩ := SlAt.shape hv
  rw [List.length_map] at hq1 HV ⊢
  rw [maxLen_eq] at hl2 hq2
  have HBD := Lib.hid (fun k => feeL_bd hz (ps := ps.take k) fun i hi => hp i (List.mem_of_mem_take hi))
  have HZ := Lib.hid hz
  obtain ⟨n, hn0⟩ : ∃ n, n = l.length := ⟨_, rfl⟩
  obtain ⟨m, hm⟩ : ∃ m, m = ps.length := ⟨_, rfl⟩
  rw [← hn0] at hl1 HSL hp ⊢
  rw [← hm] at hq1 HV hn ⊢
  have HP := Lib.hid hp
  have HM := Lib.hid hm
  clear hsl hv hz hp hn0 hm
  go_enter Try.func22, Try.ntmps22
  go_wp2_with fail
  go_loopw [6, 7, 12] (fun f s i wr => ∃ k : Nat, k ≤ m ∧ i = .int .i64 k ∧ f = .int .i64 (feeL l (ps.take k)).1 ∧ s = .int .i64 (feeL l (ps.take k)).2 ∧ Below w.heap.size w wr) (fun _ _ i _ => m - (Go.RowKit.intOf i).toNat)
  case atStart => exact ⟨0, Nat.zero_le _, rfl, rfl, rfl, Below.refl _ _⟩
  case round =>
    rename World => wo
    obtain ⟨k, hk, rfl, rfl, rfl, hb⟩ := hrel
    have HB := Lib.hid hb
    clear hb
    obtain ⟨sf, hsf⟩ : ∃ sf, sf = (feeL l (ps.take k)).1 := ⟨_, rfl⟩
    obtain ⟨ss, hss⟩ : ∃ ss, ss = (feeL l (ps.take k)).2 := ⟨_, rfl⟩
    have hbd := HBD.out k
    have hlt0 : (ps.take k).length ≤ 100 := by rw [List.length_take]; omega
    rw [← hsf, ← hss] at hbd ⊢
    have HSF := Lib.hid hsf
    have HSS := Lib.hid hss
    have b1 : 0 ≤ sf := hbd.1
    have b2 : sf ≤ 429496729500 := by omega
    have b3 : 0 ≤ ss := by omega
    have b4 : ss ≤ 200000 := by omega
    clear hbd hlt0 hsf hss
    by_cases hlt : k < m
    · obtain ⟨vb, vo, y, rfl, hy, d0⟩ := IntsAt.cell (HV.out.below HB.out) hlt
      rw [List.getElem?_map] at hy
      obtain ⟨i, hi, rfl⟩ := Option.map_eq_some_iff.1 hy
      have hin : i < n := HP.out i (List.mem_of_getElem? hi)
      obtain ⟨sb, so, x, ia, ni, ic, oa, no, oc, rfl, hx, -, -, -, -, -, -, -, e5, e6⟩ := (HSL.out.below HB.out).ent hin
      have hxm := List.mem_of_getElem? hx
      have f1 := HZ.out.fee x hxm
      have f2 := HZ.out.size x hxm
      have HT := Lib.hid (feeL_take hi hx)
      unfold natI at d0
      have HX := Lib.hid hx
      have HI := Lib.hid hi
      clear hy hx hi hxm
      have E1 : IntKind.i64.wrap (sf + x.fee) = sf + x.fee := by rw [IntKind.wrap_i64]; omega
      have E2 : IntKind.i64.wrap (ss + x.size) = ss + x.size := by rw [IntKind.wrap_i64]; omega
      go_upto_region 5 with fail
      obtain ⟨C, hC⟩ : ∃ C : World → Prop, C = fun w' => Below wo.heap.size wo w' := ⟨_, rfl⟩
      have kd0 := kin_cell hC d0
      have ke5 := kin_cell hC e5
      have ke6 := kin_cell hC e6
      have HC := Lib.hid hC
      clear hC
      refine wp_region_kin C (by kernel_rfl) (by kernel_rfl) (by rw [HC.out]; exact ⟨rfl, rfl, rfl, Nat.le_refl _, fun _ _ => rfl⟩) ?_
      intro hne
      repeat (first | (go_big_quiet_step (fail)) | (quiet_step (fail)))
      refine wpQuiet_nil ?_
      intro _ hw'
      obtain ⟨kx, hw''⟩ := hw'
      subst hw''
      obtain ⟨w1, hxc⟩ := kx
      rw [HC.out] at hxc
      clear HC hne kd0 ke5 ke6
      have HB1 := Lib.hid (HB.out.trans (hxc.mono HB.out.size))
      clear hxc d0 e5 e6
      go_wp2_with fail
      go_roundw
      case rel => exact ⟨k + 1, by omega, by go_num, by rw [HT.out, HSF.out], by rw [HT.out, HSS.out], HB1.out⟩
      case measure => simp [Go.RowKit.intOf]; omega
    · obtain rfl : k = m := by omega
      have HF := Lib.hid (show feeL l ps = (sf, ss) by rw [HSF.out, HSS.out, HM.out, List.take_length])
      go_wp2_with fail
      go_ret2
      exact ⟨by rw [HF.out] <;> rfl, HB.out⟩
end Go.Proofs.Ytfkcldaogfengaa
end
