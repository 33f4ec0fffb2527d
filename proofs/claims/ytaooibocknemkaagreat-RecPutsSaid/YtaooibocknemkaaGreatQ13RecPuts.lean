/-
  RecPuts, part 13: the texts Ex, Ez, Ey, one after another. Conditions: none beyond those named at each.
-/
import Derived.Test.YtaooibocknemkaaGreatEu
import Derived.Test.YtaooibocknemkaaGreatQ10RecPuts
import Derived.Test.YtaooibocknemkaaGreatQ4RecPuts
import Derived.Test.YtaooibocknemkaaGreatEw2
import Derived.Test.YtaooibocknemkaaGreatQ12RecPuts
section
namespace Go.Proofs.YtaooibocknemkaaGreat
open Go.RowKit Go.BigFrame
open Go.Lib (hid)
set_option linter.unusedVariables false
set_option linter.unusedSimpArgs false
theorem wpList_load_row_g {P : Program} {ops : Array Oper} {rest : List Oper} {o : Oper} {a : Act} {w : World} {Q : Exit → Act → World → Prop} (ty : TypeId) (x : Operand) (ho : o.op = .load ty x)
    (g : Nat) (hx : a.eval x = .pointer (some ⟨g, 0, none⟩)) (t : TypeId) (cs : Array Value) (fr : Nat × Nat) (d : TypeDesc) (hg : w.heap[g]? = some (.cells cs t fr))
    (hu : P.underlying ty = some d) (hd : (match d with | .struct _ | .array _ _ => true | _ => false) = true) (hi : (P.info? ty).map (·.size) = some cs.size) (hw : Region.wanted o (yielded ops a.tmps) = true)
    (h : wpList P ops Q rest (a.put o.dst (.agg cs)) w) : wpList P ops Q (o :: rest) a w := by
  unfold wpList
  rw [if_pos hw]
  exact .inl (Go.wp_load_row ty x ho g hx t cs fr d hg hu hd hi h)
def rec7 : PRec := { noRec with kind := 5, num := 7 }
theorem rec7_check : checkR rec7 = 0 := by
  refine checkR_ok ⟨by decide, by decide⟩ ?_ ?_
  · unfold ownR
    rw [if_neg (by decide), if_neg (by decide), if_neg (by decide), if_neg (by decide)]
    rfl
  · refine (ranged_iff ⟨by decide, by decide⟩ ?_).1 ?_
    · unfold ownR
      rw [if_neg (by decide), if_neg (by decide), if_neg (by decide), if_neg (by decide)]
      rfl
    · decide
theorem rec7_len : (putL rec7).length = 13 := by
  rw [putL_len]
  unfold payL bodyL
  rw [if_neg (by decide), if_neg (by decide), if_neg (by decide), if_neg (by decide)]
  simp [leB_length]
theorem noRec_check : checkR noRec = 2 := checkR_bad (fun h => absurd h.1 (by decide))
theorem rec7_ok : rec7.Ok := by
  have z := i64R0
  exact ⟨⟨by decide, by decide⟩, ⟨by decide, by decide⟩, z32, z32, z, zid, z32, z, z, z16, z16, z32, z, z, z, z⟩
theorem rec7_at (w : World) : RecAt w (.agg #[.int .i64 5, .int .i64 7, .int .u32 0, .slice none 0 0, .slice none 0 0, .int .u32 0, .int .i64 0, .string ⟨#[]⟩, .int .u32 0, .int .i64 0, .int .i64 0, .int .u16 0, .int .u16 0, .int .u32 0, .int .i64 0, .int .i64 0, .int .i64 0, .int .i64 0]) rec7 := ⟨.slice none 0 0, .slice none 0 0, rfl, slin_nil _, slout_nil _, rec7_ok⟩
theorem rec0_at (w : World) : RecAt w (.agg #[.int .i64 0, .int .i64 0, .int .u32 0, .slice none 0 0, .slice none 0 0, .int .u32 0, .int .i64 0, .string ⟨#[]⟩, .int .u32 0, .int .i64 0, .int .i64 0, .int .u16 0, .int .u16 0, .int .u32 0, .int .i64 0, .int .i64 0, .int .i64 0, .int .i64 0]) noRec := (noRec_own 0 w).at_
theorem nine_list : (⟨#[49, 50, 51, 52, 53, 54, 55, 56, 57]⟩ : ByteArray).data.toList = [49, 50, 51, 52, 53, 54, 55, 56, 57] := rfl
theorem recN_of {w : World} {v : Value} {r : PRec} (h : RecAt w v r) : RecN r := by
  obtain ⟨va, vb, rfl, hi, ho, hk⟩ := h
  refine ⟨⟨hk.ver, hk.lock, fun x hx => ?_⟩, hk.idx, hk.tag, hk.delay⟩
  obtain ⟨i, hil, rfl⟩ := List.getElem_of_mem hx
  obtain ⟨a, c, rfl, h2, h3, h4⟩ := hi
  obtain ⟨b, o, cs, rfl, e2, e3, e4⟩ := h4 i _ (List.getElem?_eq_getElem hil)
  obtain ⟨wv, -, -, -, h5, h6⟩ := e4
  exact ⟨h5, h6⟩
set_option maxRecDepth 100000 in
set_option maxHeartbeats 8000000 in
theorem wakes26_any (w : World) : Calls Tryz.prog 16 #[] w (BIs true w) := by
  obtain ⟨s7, hs7⟩ : ∃ s, s = putE rec7 := ⟨_, rfl⟩
  have hs7b : s7 = bL (putL rec7) := by rw [hs7]; unfold putE; rw [if_pos rec7_check]
  have hsz : s7.size = 13 := by rw [hs7b, bL_size, rec7_len]
  obtain ⟨s0, hs0⟩ : ∃ s, s = putE noRec := ⟨_, rfl⟩
  have P1 := hid (show ∀ y : World, Calls Tryz.prog 10 #[.agg #[.int .i64 5, .int .i64 7, .int .u32 0, .slice none 0 0, .slice none 0 0, .int .u32 0, .int .i64 0, .string ⟨#[]⟩, .int .u32 0, .int .i64 0, .int .i64 0, .int .u16 0, .int .u16 0, .int .u32 0, .int .i64 0, .int .i64 0, .int .i64 0, .int .i64 0]] y (fun e w' => e = .returned (.tuple #[.string s7, .int .i64 0]) ∧ Below y.heap.size y w') from fun y => by
    have h2 := recput_any _ rec7 y (rec7_at y) (by decide)
    rw [rec7_check, ← hs7] at h2
    exact h2)
  have P0 := hid (show ∀ y : World, Calls Tryz.prog 10 #[.agg #[.int .i64 0, .int .i64 0, .int .u32 0, .slice none 0 0, .slice none 0 0, .int .u32 0, .int .i64 0, .string ⟨#[]⟩, .int .u32 0, .int .i64 0, .int .i64 0, .int .u16 0, .int .u16 0, .int .u32 0, .int .i64 0, .int .i64 0, .int .i64 0, .int .i64 0]] y (fun e w' => e = .returned (.tuple #[.string s0, .int .i64 2]) ∧ Below y.heap.size y w') from fun y => by
    have h2 := recput_any _ noRec y (rec0_at y) (by decide)
    rw [noRec_check, ← hs0] at h2
    exact h2)
  have G1 := hid (show ∀ y : World, Calls Tryz.prog 53 #[.string (⟨#[120]⟩ ++ s7), .int .i64 1] y (fun e w' => ∃ v, e = .returned (.tuple #[v, .int .i64 14, .int .i64 0]) ∧ RecOwn y.heap.size w' v rec7 ∧ Below y.heap.size y w') from fun y => by
    have hsz2 : (⟨#[120]⟩ ++ s7 : ByteArray).size = 14 := by rw [ByteArray.size_append, hsz]; rfl
    have h2 := recget_any (⟨#[120]⟩ ++ s7) 1 y (by omega) (by omega)
    have hl : (⟨#[120]⟩ ++ s7 : ByteArray).data.toList = [120] ++ (putL rec7 ++ []) := by
      rw [hs7b, List.append_nil]
      simp [bL]
    rw [hl, show (1 : Nat) = ([120] : List UInt8).length from rfl, get_back rec7_check (recN_of (rec7_at y)) [120] [], rec7_len] at h2
    exact h2)
  have S9 := hid (show ∀ y : World, Calls Tryz.prog 42 #[.string ⟨#[49, 50, 51, 52, 53, 54, 55, 56, 57]⟩] y (fun e w' => e = .returned (.int .u32 3808858755) ∧ y = w') from fun y => by
    have h2 := recsum_any ⟨#[49, 50, 51, 52, 53, 54, 55, 56, 57]⟩ (by decide) y
    rw [nine_list, crc_nine] at h2
    exact h2)
  have EQ := hid (show ∀ (y : World) (v1 : Value), RecAt y v1 rec7 → Calls Tryz.prog 14 #[v1, .agg #[.int .i64 5, .int .i64 7, .int .u32 0, .slice none 0 0, .slice none 0 0, .int .u32 0, .int .i64 0, .string ⟨#[]⟩, .int .u32 0, .int .i64 0, .int .i64 0, .int .u16 0, .int .u16 0, .int .u32 0, .int .i64 0, .int .i64 0, .int .i64 0, .int .i64 0]] y (fun e w' => e = .returned (.bool true) ∧ Below y.heap.size y w') from fun y v1 h1 => by
    have h2 := recequal_any v1 _ rec7 rec7 y h1 (rec7_at y)
    rw [sameR_yes rfl] at h2
    exact h2)
  clear hs7 hs7b hs0
  go_enter Tryz.func16, Tryz.ntmps16
  go_wp2_with fail
  refine (P1.out w).mono ?_
  rintro e w1 ⟨rfl, hb⟩
  have HB := hid hb
  clear hb P1
  go_wp2_with fail
  refine (G1.out w1).mono ?_
  rintro e w2 ⟨v, rfl, ho, hb⟩
  have HB := hid (HB.out.trans (hb.mono HB.out.size))
  obtain ⟨va, vb, rfl, hto, hok⟩ := ho
  obtain ⟨ia, ic, rfl, -, -⟩ := hto.at_.1.shape
  obtain ⟨oa, oc, rfl, -, -⟩ := hto.at_.2.shape
  have HR := hid (show RecAt w2 (.agg #[.int .i64 5, .int .i64 7, .int .u32 0, .slice ia rec7.tx.ins.length ic, .slice oa rec7.tx.outs.length oc, .int .u32 0, .int .i64 0, .string ⟨#[]⟩, .int .u32 0, .int .i64 0, .int .i64 0, .int .u16 0, .int .u16 0, .int .u32 0, .int .i64 0, .int .i64 0, .int .i64 0, .int .i64 0]) rec7 from ⟨_, _, rfl, hto.at_.1, hto.at_.2, hok⟩)

  clear hb hto hok G1
  have HNW := hid (heap_alloc_new w2 (.cells #[.int .i64 0, .int .i64 0, .int .u32 0, .slice none 0 0, .slice none 0 0, .int .u32 0, .int .i64 0, .string ⟨#[]⟩, .int .u32 0, .int .i64 0, .int .i64 0, .int .u16 0, .int .u16 0, .int .u32 0, .int .i64 0, .int .i64 0, .int .i64 0, .int .i64 0] 35))
  have HNR := hid (setRow_heap (w2.alloc (.cells #[.int .i64 0, .int .i64 0, .int .u32 0, .slice none 0 0, .slice none 0 0, .int .u32 0, .int .i64 0, .string ⟨#[]⟩, .int .u32 0, .int .i64 0, .int .i64 0, .int .u16 0, .int .u16 0, .int .u32 0, .int .i64 0, .int .i64 0, .int .i64 0, .int .i64 0] 35)) w2.heap.size _ #[.int .i64 5, .int .i64 7, .int .u32 0, .slice ia rec7.tx.ins.length ic, .slice oa rec7.tx.outs.length oc, .int .u32 0, .int .i64 0, .string ⟨#[]⟩, .int .u32 0, .int .i64 0, .int .i64 0, .int .u16 0, .int .u16 0, .int .u32 0, .int .i64 0, .int .i64 0, .int .i64 0, .int .i64 0] _ _ HNW.out)
  have HAL := hid (show Below w2.heap.size w2 ((w2.alloc (.cells #[.int .i64 0, .int .i64 0, .int .u32 0, .slice none 0 0, .slice none 0 0, .int .u32 0, .int .i64 0, .string ⟨#[]⟩, .int .u32 0, .int .i64 0, .int .i64 0, .int .u16 0, .int .u16 0, .int .u32 0, .int .i64 0, .int .i64 0, .int .i64 0, .int .i64 0] 35)).setRow w2.heap.size #[.int .i64 5, .int .i64 7, .int .u32 0, .slice ia rec7.tx.ins.length ic, .slice oa rec7.tx.outs.length oc, .int .u32 0, .int .i64 0, .string ⟨#[]⟩, .int .u32 0, .int .i64 0, .int .i64 0, .int .u16 0, .int .u16 0, .int .u32 0, .int .i64 0, .int .i64 0, .int .i64 0, .int .i64 0]) from below_rowE ((Below.refl _ _).alloc (Nat.le_refl _) _) (Nat.le_refl _) _)
  go_upto_region 3 with (refine wpList_store_row rfl 35 (.tmp 3) (.tmp 17) rfl w2.heap.size #[.int .i64 5, .int .i64 7, .int .u32 0, .slice ia rec7.tx.ins.length ic, .slice oa rec7.tx.outs.length oc, .int .u32 0, .int .i64 0, .string ⟨#[]⟩, .int .u32 0, .int .i64 0, .int .i64 0, .int .u16 0, .int .u16 0, .int .u32 0, .int .i64 0, .int .i64 0, .int .i64 0, .int .i64 0] rfl rfl 35 _ HNW.out (by kernel_rfl) rfl (by kernel_rfl) ?_)
  clear HNW
  obtain ⟨V, hV⟩ : ∃ q, q = w2.heap.size := ⟨_, rfl⟩
  rw [← hV]
  have hz := HNR.out
  have hal := HAL.out
  clear HNR HAL
  rw [← hV] at hz hal
  generalize World.setRow _ V _ = w3 at *
  rw [hV] at hal
  have HV := hid hz
  have HB := hid (HB.out.trans (hal.mono HB.out.size))
  have HR := hid (HR.out.below hal)
  clear hz hal hV
  go_wp2_with fail
  refine (P0.out w3).mono ?_
  rintro e w4 ⟨rfl, hb⟩
  have HB := hid (HB.out.trans (hb.mono HB.out.size))
  have HV := hid ((hb.block V (Array.getElem?_eq_some_iff.1 HV.out).1).trans HV.out)
  have HR := hid (HR.out.below hb)
  clear hb P0
  go_wp2_with fail
  refine (S9.out w4).mono ?_
  rintro e w5 ⟨rfl, rfl⟩
  have v0 : w4.cell? ⟨V, 0, none⟩ = some (.int .i64 5) := cell_at HV.out
  have v1 : w4.cell? ⟨V, 1, none⟩ = some (.int .i64 7) := cell_at HV.out
  go_wp2_with (refine wpList_load_row_g 35 (.tmp 3) rfl V rfl 35 _ (0, 0) _ HV.out Tryz.underlying35 rfl (by kernel_rfl) (by kernel_rfl) ?_)
  refine (EQ.out w4 _ HR.out).mono ?_
  rintro e w6 ⟨rfl, hb⟩
  have HB := hid (HB.out.trans (hb.mono HB.out.size))
  go_wp2_with fail
  go_ret
  exact ⟨rfl, HB.out⟩
end Go.Proofs.YtaooibocknemkaaGreat
end

section
namespace Go.Proofs.YtaooibocknemkaaGreat
open Go.RowKit Go.BigFrame
set_option linter.unusedVariables false
set_option linter.unusedSimpArgs false
set_option maxRecDepth 100000 in
def SmlV (w : World) (v : Value) (z : PSml) : Prop := ∃ va vb vc vd, v = .agg (smlCells z va vb vc vd).toArray ∧ SlAt rpIn w va z.tx.ins ∧ SlAt rpOut w vb z.tx.outs ∧ SlAt rpIn w vc z.raw.tx.ins ∧ SlAt rpOut w vd z.raw.tx.outs ∧ z.Ok
set_option maxRecDepth 100000 in
theorem open_smlv {H : Type} {enc : TypeId × Value → H} {w : World} {v : Value} {d : DataW H} {ps : List MemPlace} (hv : Value.okWide Tryz.prog w .any 0 37 v) (h : DataW.Trod enc Tryz.prog w 0 (fun _ => true) true 37 v d ps) : ∃ z, SmlV w v z := by
  obtain ⟨z, va, vb, vc, vd, h1, h2, h3, h4, h5, h6⟩ := open_sml hv h
  exact ⟨z, va, vb, vc, vd, h1, h2, h3, h4, h5, h6⟩
set_option maxRecDepth 100000 in
theorem SmlV.below {w w' : World} {v : Value} {z : PSml} (h : SmlV w v z) (hb : Below w.heap.size w w') : SmlV w' v z := by
  obtain ⟨va, vb, vc, vd, h1, h2, h3, h4, h5, h6⟩ := h
  exact ⟨va, vb, vc, vd, h1, h2.below hb, h3.below hb, h4.below hb, h5.below hb, h6⟩
set_option maxRecDepth 100000 in
theorem rmake_any (v : Value) (z : PSml) (w : World) (h : SmlV w v z) : Calls Tryz.prog 9 #[v] w (MakeIs w) := by
  obtain ⟨va, vb, vc, vd, rfl, h2, h3, h4, h5, h6⟩ := h
  cases ho : z.odd with
  | true => exact rmake_odd z va vb vc vd w h2 h3 h4 h5 h6 ho
  | false => exact rmake_even z va vb vc vd w h2 h3 h4 h5 h6 ho
theorem put_none_ (a : Act) (v : Value) : a.put none v = a := rfl
end Go.Proofs.YtaooibocknemkaaGreat
end

section
namespace Go.Proofs.YtaooibocknemkaaGreat
open Go.RowKit Go.BigFrame
set_option linter.unusedVariables false
set_option linter.unusedSimpArgs false
end Go.Proofs.YtaooibocknemkaaGreat
end
