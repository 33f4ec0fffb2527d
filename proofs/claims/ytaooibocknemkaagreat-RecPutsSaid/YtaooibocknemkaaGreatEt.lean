/-
  rec.Get: the record that stands at a place of a text, or what is wrong with it. Conditions: the place is in the text, which is no longer than a text may be.
-/
import Derived.Test.YtaooibocknemkaaGreatEs
import Derived.Test.YtaooibocknemkaaGreatQ10RecPuts
namespace Go.Proofs.YtaooibocknemkaaGreat
open Go.RowKit Go.BigFrame
open Go.Lib (hid)
set_option linter.unusedVariables false
set_option linter.unusedSimpArgs false
theorem results_cell_tmp2 {P : Program} {fn : Func} {p q q2 : Tmp} {ty : TypeId} (h : fn.results = #[.cell p ty, .tmp q, .tmp q2]) (tmps : Array Value) (w : World) (g : Nat) (t : TypeId) (cs : Array Value) (fr : Nat × Nat) (d : TypeDesc) (u u2 : Value)
    (hp : tmps.getD p undef = .pointer (some ⟨g, 0, none⟩)) (hu2 : tmps.getD q undef = u) (hu3 : tmps.getD q2 undef = u2) (hg : w.heap[g]? = some (.cells cs t fr))
    (hu : P.underlying ty = some d) (hd : (match d with | .struct _ | .array _ _ => true | _ => false) = true) (hi : (P.info? ty).map (·.size) = some cs.size) :
    (results fn tmps).run P w = .ok (.tuple #[.agg cs, u, u2]) w := by
  have hp' : tmps[p]?.getD undef = .pointer (some ⟨g, 0, none⟩) := by simpa using hp
  have hq' : tmps[q]?.getD undef = u := by simpa using hu2
  have hq2 : tmps[q2]?.getD undef = u2 := by simpa using hu3
  simp [results, h, hp', hq', hq2, asAddr, run_loadVar_row w g t ty cs fr d hg hu hd hi]
/-- The record of type r (own memory from base on), the place, the error. -/
def GetRIs (g : PRec × Nat × Int) (w : World) (e : Ending) (w' : World) : Prop := ∃ v, e = .returned (.tuple #[v, .int .i64 g.2.1, .int .i64 g.2.2]) ∧ RecOwn w.heap.size w' v g.1 ∧ Below w.heap.size w w'
theorem noRec_own (base : Nat) (w : World) : RecOwn base w (.agg #[.int .i64 0, .int .i64 0, .int .u32 0, .slice none 0 0, .slice none 0 0, .int .u32 0, .int .i64 0, .string ⟨#[]⟩, .int .u32 0, .int .i64 0, .int .i64 0, .int .u16 0, .int .u16 0, .int .u32 0, .int .i64 0, .int .i64 0, .int .i64 0, .int .i64 0]) noRec := by
  have z := i64R0
  exact ⟨.slice none 0 0, .slice none 0 0, rfl, noTxQ_own base w, ⟨z, z, z32, z32, z, zid, z32, z, z, z16, z16, z32, z, z, z, z⟩⟩
theorem getQ_short {q : List UInt8} (h : q.length < 8) : getQ q = (noRec, 0, 5) := by unfold getQ; rw [if_pos h]
theorem getL_of {l : List UInt8} {p : Nat} {e : Int} (h : getQ (l.drop p) = (noRec, 0, e)) : getL l p = (noRec, (if e = 0 then p else 0), e) := by
  unfold getL; rw [h]; rfl
theorem wrap64_id {n : Nat} (h : n ≤ 9223372036854775807) : IntKind.i64.wrap (n : Int) = n := by rw [IntKind.wrap_i64]; omega
theorem wrapu64_id {n : Nat} (h : n ≤ 9223372036854775807) : IntKind.u64.wrap (n : Int) = n := by rw [IntKind.wrap_u64]; omega
set_option maxRecDepth 100000 in
set_option maxHeartbeats 4000000 in
theorem get_k1 (s : ByteArray) (p : Nat) (w : World) (hs : s.size ≤ 9223372036854775000) (hp : p ≤ s.size) (hk : s.size - p < 4) : Calls Tryz.prog 53 #[.string s, .int .i64 p] w (GetRIs (getL s.data.toList p) w) := by
  have hln : (s.data.toList.drop p).length = s.size - p := by rw [List.length_drop, data_len]
  have HG := hid (show getL s.data.toList p = (noRec, 0, 5) from getL_of (l := s.data.toList) (p := p) (e := 5) (getQ_short (by omega)))
  obtain ⟨p4, hp4⟩ : ∃ q, q = p + 4 := ⟨_, rfl⟩
  have e4 : (p : Int) + 4 = (p4 : Int) := by omega
  have w4 : IntKind.i64.wrap (p4 : Int) = (p4 : Int) := wrap64_id (by omega)
  have hp0 : ¬ (p : Int) < 0 := by omega
  have hps : ¬ (s.size : Int) < (p : Int) := by omega
  have O1 := hid (show ∀ y : World, Calls Tryz.prog 84 #[.string s, .int .i64 p, .int .i64 4] y (fun e w' => e = .returned (.tuple #[.int .u64 0, .bool false]) ∧ Below y.heap.size y w') from fun y => get_no s p 4 (by unfold okSize; decide) (by omega) (.inr (by omega)) y)
  have O2 := hid (show ∀ y : World, Calls Tryz.prog 84 #[.string s, .int .i64 p4, .int .i64 4] y (fun e w' => e = .returned (.tuple #[.int .u64 0, .bool false]) ∧ Below y.heap.size y w') from fun y => get_no s p4 4 (by unfold okSize; decide) (by omega) (.inr (by omega)) y)
  have HU := hid (show True from trivial)
  clear hk hs hp hln hp4
  go_enter Tryz.func53, Tryz.ntmps53
  go_upto_region 1 with fail
  have hz := heap_alloc_new w (.cells #[.int .i64 0, .int .i64 0, .int .u32 0, .slice none 0 0, .slice none 0 0, .int .u32 0, .int .i64 0, .string ⟨#[]⟩, .int .u32 0, .int .i64 0, .int .i64 0, .int .u16 0, .int .u16 0, .int .u32 0, .int .i64 0, .int .i64 0, .int .i64 0, .int .i64 0] 35)
  have hal : Below w.heap.size w (w.alloc (.cells #[.int .i64 0, .int .i64 0, .int .u32 0, .slice none 0 0, .slice none 0 0, .int .u32 0, .int .i64 0, .string ⟨#[]⟩, .int .u32 0, .int .i64 0, .int .i64 0, .int .u16 0, .int .u16 0, .int .u32 0, .int .i64 0, .int .i64 0, .int .i64 0, .int .i64 0] 35)) := (Below.refl _ _).alloc (Nat.le_refl _) _
  obtain ⟨X, hX⟩ : ∃ q, q = w.heap.size := ⟨_, rfl⟩
  rw [← hX] at hz ⊢
  generalize w.alloc (.cells #[.int .i64 0, .int .i64 0, .int .u32 0, .slice none 0 0, .slice none 0 0, .int .u32 0, .int .i64 0, .string ⟨#[]⟩, .int .u32 0, .int .i64 0, .int .i64 0, .int .u16 0, .int .u16 0, .int .u32 0, .int .i64 0, .int .i64 0, .int .i64 0, .int .i64 0] 35) = w0 at *
  have HX := hid hz
  have HB := hid hal
  have HXX := hid hX
  clear hz hal hX
  go_wp2_with fail
  refine (O1.out w0).mono ?_
  rintro e w1 ⟨rfl, hb⟩
  have HX := hid ((hb.block X (Array.getElem?_eq_some_iff.1 HX.out).1).trans HX.out)
  have HB := hid (HB.out.trans (hb.mono HB.out.size))
  clear hb
  go_wp2_with fail
  refine (O2.out w1).mono ?_
  rintro e w2 ⟨rfl, hb⟩
  have HX := hid ((hb.block X (Array.getElem?_eq_some_iff.1 HX.out).1).trans HX.out)
  have HB := hid (HB.out.trans (hb.mono HB.out.size))
  clear hb
  go_wp2_with (first | (refine wpList_store_row rfl 35 (.tmp 4) (.tmp 44) rfl X #[.int .i64 0, .int .i64 0, .int .u32 0, .slice none 0 0, .slice none 0 0, .int .u32 0, .int .i64 0, .string ⟨#[]⟩, .int .u32 0, .int .i64 0, .int .i64 0, .int .u16 0, .int .u16 0, .int .u32 0, .int .i64 0, .int .i64 0, .int .i64 0, .int .i64 0] rfl rfl 35 _ HX.out (by kernel_rfl) rfl (by kernel_rfl) ?_))
  refine bodyPost_ret (v := .tuple #[.agg #[.int .i64 0, .int .i64 0, .int .u32 0, .slice none 0 0, .slice none 0 0, .int .u32 0, .int .i64 0, .string ⟨#[]⟩, .int .u32 0, .int .i64 0, .int .i64 0, .int .u16 0, .int .u16 0, .int .u32 0, .int .i64 0, .int .i64 0, .int .i64 0, .int .i64 0], .int .i64 0, .int .i64 5]) (results_cell_tmp2 (P := Tryz.prog) (p := 4) (q := 5) (q2 := 6) (ty := 35) Tryz.results53 _ _ X 35 #[.int .i64 0, .int .i64 0, .int .u32 0, .slice none 0 0, .slice none 0 0, .int .u32 0, .int .i64 0, .string ⟨#[]⟩, .int .u32 0, .int .i64 0, .int .i64 0, .int .u16 0, .int .u16 0, .int .u32 0, .int .i64 0, .int .i64 0, .int .i64 0, .int .i64 0] (0, 0) _ _ _ rfl rfl rfl (setRow_heap _ X _ _ _ _ HX.out) Tryz.underlying35 rfl (by kernel_rfl)) rfl ?_
  rw [HG.out]
  exact ⟨_, rfl, noRec_own _ _, below_rowE HB.out (Nat.le_of_eq HXX.out.symm) _⟩
set_option maxRecDepth 100000 in
set_option maxHeartbeats 4000000 in
theorem get_k2 (s : ByteArray) (p : Nat) (w : World) (hs : s.size ≤ 9223372036854775000) (hp : p ≤ s.size) (hk : 4 ≤ s.size - p ∧ s.size - p < 8) : Calls Tryz.prog 53 #[.string s, .int .i64 p] w (GetRIs (getL s.data.toList p) w) := by
  have hln : (s.data.toList.drop p).length = s.size - p := by rw [List.length_drop, data_len]
  have HG := hid (show getL s.data.toList p = (noRec, 0, 5) from getL_of (l := s.data.toList) (p := p) (e := 5) (getQ_short (by omega)))
  obtain ⟨p4, hp4⟩ : ∃ q, q = p + 4 := ⟨_, rfl⟩
  have e4 : (p : Int) + 4 = (p4 : Int) := by omega
  have w4 : IntKind.i64.wrap (p4 : Int) = (p4 : Int) := wrap64_id (by omega)
  have hp0 : ¬ (p : Int) < 0 := by omega
  have hps : ¬ (s.size : Int) < (p : Int) := by omega
  obtain ⟨n, hn⟩ : ∃ n, n = lenQ (s.data.toList.drop p) := ⟨_, rfl⟩
  have hnN : getN s p 4 = n := by rw [hn]; rfl
  have O1 := hid (show ∀ y : World, Calls Tryz.prog 84 #[.string s, .int .i64 p, .int .i64 4] y (fun e w' => e = .returned (.tuple #[.int .u64 n, .bool true]) ∧ Below y.heap.size y w') from fun y => by have h2 := get_yes s p 4 (by unfold okSize; decide) (by omega) (by omega) y; rw [hnN] at h2; exact h2)
  have O2 := hid (show ∀ y : World, Calls Tryz.prog 84 #[.string s, .int .i64 p4, .int .i64 4] y (fun e w' => e = .returned (.tuple #[.int .u64 0, .bool false]) ∧ Below y.heap.size y w') from fun y => get_no s p4 4 (by unfold okSize; decide) (by omega) (.inr (by omega)) y)
  have HU := hid (show True from trivial)
  clear hk hs hp hln hp4 hn hnN
  go_enter Tryz.func53, Tryz.ntmps53
  go_upto_region 1 with fail
  have hz := heap_alloc_new w (.cells #[.int .i64 0, .int .i64 0, .int .u32 0, .slice none 0 0, .slice none 0 0, .int .u32 0, .int .i64 0, .string ⟨#[]⟩, .int .u32 0, .int .i64 0, .int .i64 0, .int .u16 0, .int .u16 0, .int .u32 0, .int .i64 0, .int .i64 0, .int .i64 0, .int .i64 0] 35)
  have hal : Below w.heap.size w (w.alloc (.cells #[.int .i64 0, .int .i64 0, .int .u32 0, .slice none 0 0, .slice none 0 0, .int .u32 0, .int .i64 0, .string ⟨#[]⟩, .int .u32 0, .int .i64 0, .int .i64 0, .int .u16 0, .int .u16 0, .int .u32 0, .int .i64 0, .int .i64 0, .int .i64 0, .int .i64 0] 35)) := (Below.refl _ _).alloc (Nat.le_refl _) _
  obtain ⟨X, hX⟩ : ∃ q, q = w.heap.size := ⟨_, rfl⟩
  rw [← hX] at hz ⊢
  generalize w.alloc (.cells #[.int .i64 0, .int .i64 0, .int .u32 0, .slice none 0 0, .slice none 0 0, .int .u32 0, .int .i64 0, .string ⟨#[]⟩, .int .u32 0, .int .i64 0, .int .i64 0, .int .u16 0, .int .u16 0, .int .u32 0, .int .i64 0, .int .i64 0, .int .i64 0, .int .i64 0] 35) = w0 at *
  have HX := hid hz
  have HB := hid hal
  have HXX := hid hX
  clear hz hal hX
  go_wp2_with fail
  refine (O1.out w0).mono ?_
  rintro e w1 ⟨rfl, hb⟩
  have HX := hid ((hb.block X (Array.getElem?_eq_some_iff.1 HX.out).1).trans HX.out)
  have HB := hid (HB.out.trans (hb.mono HB.out.size))
  clear hb
  go_wp2_with fail
  refine (O2.out w1).mono ?_
  rintro e w2 ⟨rfl, hb⟩
  have HX := hid ((hb.block X (Array.getElem?_eq_some_iff.1 HX.out).1).trans HX.out)
  have HB := hid (HB.out.trans (hb.mono HB.out.size))
  clear hb
  go_wp2_with (first | (refine wpList_store_row rfl 35 (.tmp 4) (.tmp 44) rfl X #[.int .i64 0, .int .i64 0, .int .u32 0, .slice none 0 0, .slice none 0 0, .int .u32 0, .int .i64 0, .string ⟨#[]⟩, .int .u32 0, .int .i64 0, .int .i64 0, .int .u16 0, .int .u16 0, .int .u32 0, .int .i64 0, .int .i64 0, .int .i64 0, .int .i64 0] rfl rfl 35 _ HX.out (by kernel_rfl) rfl (by kernel_rfl) ?_))
  refine bodyPost_ret (v := .tuple #[.agg #[.int .i64 0, .int .i64 0, .int .u32 0, .slice none 0 0, .slice none 0 0, .int .u32 0, .int .i64 0, .string ⟨#[]⟩, .int .u32 0, .int .i64 0, .int .i64 0, .int .u16 0, .int .u16 0, .int .u32 0, .int .i64 0, .int .i64 0, .int .i64 0, .int .i64 0], .int .i64 0, .int .i64 5]) (results_cell_tmp2 (P := Tryz.prog) (p := 4) (q := 5) (q2 := 6) (ty := 35) Tryz.results53 _ _ X 35 #[.int .i64 0, .int .i64 0, .int .u32 0, .slice none 0 0, .slice none 0 0, .int .u32 0, .int .i64 0, .string ⟨#[]⟩, .int .u32 0, .int .i64 0, .int .i64 0, .int .u16 0, .int .u16 0, .int .u32 0, .int .i64 0, .int .i64 0, .int .i64 0, .int .i64 0] (0, 0) _ _ _ rfl rfl rfl (setRow_heap _ X _ _ _ _ HX.out) Tryz.underlying35 rfl (by kernel_rfl)) rfl ?_
  rw [HG.out]
  exact ⟨_, rfl, noRec_own _ _, below_rowE HB.out (Nat.le_of_eq HXX.out.symm) _⟩
set_option maxRecDepth 100000 in
set_option maxHeartbeats 4000000 in
theorem get_k3 (s : ByteArray) (p : Nat) (w : World) (hs : s.size ≤ 9223372036854775000) (hp : p ≤ s.size) (hk : 8 ≤ s.size - p ∧ 200000 < lenQ (s.data.toList.drop p)) : Calls Tryz.prog 53 #[.string s, .int .i64 p] w (GetRIs (getL s.data.toList p) w) := by
  have hln : (s.data.toList.drop p).length = s.size - p := by rw [List.length_drop, data_len]
  have HG := hid (show getL s.data.toList p = (noRec, 0, 20) from getL_of (l := s.data.toList) (p := p) (e := 20) (by unfold getQ; rw [if_neg (by omega), if_pos hk.2]))
  obtain ⟨p4, hp4⟩ : ∃ q, q = p + 4 := ⟨_, rfl⟩
  have e4 : (p : Int) + 4 = (p4 : Int) := by omega
  have w4 : IntKind.i64.wrap (p4 : Int) = (p4 : Int) := wrap64_id (by omega)
  have hp0 : ¬ (p : Int) < 0 := by omega
  have hps : ¬ (s.size : Int) < (p : Int) := by omega
  obtain ⟨n, hn⟩ : ∃ n, n = lenQ (s.data.toList.drop p) := ⟨_, rfl⟩
  have hnN : getN s p 4 = n := by rw [hn]; rfl
  have O1 := hid (show ∀ y : World, Calls Tryz.prog 84 #[.string s, .int .i64 p, .int .i64 4] y (fun e w' => e = .returned (.tuple #[.int .u64 n, .bool true]) ∧ Below y.heap.size y w') from fun y => by have h2 := get_yes s p 4 (by unfold okSize; decide) (by omega) (by omega) y; rw [hnN] at h2; exact h2)
  obtain ⟨m, hm⟩ : ∃ m, m = sumQ (s.data.toList.drop p) := ⟨_, rfl⟩
  have hmN : getN s p4 4 = m := by rw [hm, hp4]; unfold getN sumQ; rw [List.drop_drop]
  have O2 := hid (show ∀ y : World, Calls Tryz.prog 84 #[.string s, .int .i64 p4, .int .i64 4] y (fun e w' => e = .returned (.tuple #[.int .u64 m, .bool true]) ∧ Below y.heap.size y w') from fun y => by have h2 := get_yes s p4 4 (by unfold okSize; decide) (by omega) (by omega) y; rw [hmN] at h2; exact h2)
  have hbig : (200000 : Int) < (n : Int) := by omega
  have HU := hid (show True from trivial)
  clear hk hs hp hln hp4 hn hnN hm hmN
  go_enter Tryz.func53, Tryz.ntmps53
  go_upto_region 1 with fail
  have hz := heap_alloc_new w (.cells #[.int .i64 0, .int .i64 0, .int .u32 0, .slice none 0 0, .slice none 0 0, .int .u32 0, .int .i64 0, .string ⟨#[]⟩, .int .u32 0, .int .i64 0, .int .i64 0, .int .u16 0, .int .u16 0, .int .u32 0, .int .i64 0, .int .i64 0, .int .i64 0, .int .i64 0] 35)
  have hal : Below w.heap.size w (w.alloc (.cells #[.int .i64 0, .int .i64 0, .int .u32 0, .slice none 0 0, .slice none 0 0, .int .u32 0, .int .i64 0, .string ⟨#[]⟩, .int .u32 0, .int .i64 0, .int .i64 0, .int .u16 0, .int .u16 0, .int .u32 0, .int .i64 0, .int .i64 0, .int .i64 0, .int .i64 0] 35)) := (Below.refl _ _).alloc (Nat.le_refl _) _
  obtain ⟨X, hX⟩ : ∃ q, q = w.heap.size := ⟨_, rfl⟩
  rw [← hX] at hz ⊢
  generalize w.alloc (.cells #[.int .i64 0, .int .i64 0, .int .u32 0, .slice none 0 0, .slice none 0 0, .int .u32 0, .int .i64 0, .string ⟨#[]⟩, .int .u32 0, .int .i64 0, .int .i64 0, .int .u16 0, .int .u16 0, .int .u32 0, .int .i64 0, .int .i64 0, .int .i64 0, .int .i64 0] 35) = w0 at *
  have HX := hid hz
  have HB := hid hal
  have HXX := hid hX
  clear hz hal hX
  go_wp2_with fail
  refine (O1.out w0).mono ?_
  rintro e w1 ⟨rfl, hb⟩
  have HX := hid ((hb.block X (Array.getElem?_eq_some_iff.1 HX.out).1).trans HX.out)
  have HB := hid (HB.out.trans (hb.mono HB.out.size))
  clear hb
  go_wp2_with fail
  refine (O2.out w1).mono ?_
  rintro e w2 ⟨rfl, hb⟩
  have HX := hid ((hb.block X (Array.getElem?_eq_some_iff.1 HX.out).1).trans HX.out)
  have HB := hid (HB.out.trans (hb.mono HB.out.size))
  clear hb
  go_wp2_with (first | (refine wpList_store_row rfl 35 (.tmp 4) (.tmp 48) rfl X #[.int .i64 0, .int .i64 0, .int .u32 0, .slice none 0 0, .slice none 0 0, .int .u32 0, .int .i64 0, .string ⟨#[]⟩, .int .u32 0, .int .i64 0, .int .i64 0, .int .u16 0, .int .u16 0, .int .u32 0, .int .i64 0, .int .i64 0, .int .i64 0, .int .i64 0] rfl rfl 35 _ HX.out (by kernel_rfl) rfl (by kernel_rfl) ?_))
  refine bodyPost_ret (v := .tuple #[.agg #[.int .i64 0, .int .i64 0, .int .u32 0, .slice none 0 0, .slice none 0 0, .int .u32 0, .int .i64 0, .string ⟨#[]⟩, .int .u32 0, .int .i64 0, .int .i64 0, .int .u16 0, .int .u16 0, .int .u32 0, .int .i64 0, .int .i64 0, .int .i64 0, .int .i64 0], .int .i64 0, .int .i64 20]) (results_cell_tmp2 (P := Tryz.prog) (p := 4) (q := 5) (q2 := 6) (ty := 35) Tryz.results53 _ _ X 35 #[.int .i64 0, .int .i64 0, .int .u32 0, .slice none 0 0, .slice none 0 0, .int .u32 0, .int .i64 0, .string ⟨#[]⟩, .int .u32 0, .int .i64 0, .int .i64 0, .int .u16 0, .int .u16 0, .int .u32 0, .int .i64 0, .int .i64 0, .int .i64 0, .int .i64 0] (0, 0) _ _ _ rfl rfl rfl (setRow_heap _ X _ _ _ _ HX.out) Tryz.underlying35 rfl (by kernel_rfl)) rfl ?_
  rw [HG.out]
  exact ⟨_, rfl, noRec_own _ _, below_rowE HB.out (Nat.le_of_eq HXX.out.symm) _⟩
set_option maxRecDepth 100000 in
set_option maxHeartbeats 4000000 in
theorem get_k4 (s : ByteArray) (p : Nat) (w : World) (hs : s.size ≤ 9223372036854775000) (hp : p ≤ s.size) (hk : 8 ≤ s.size - p ∧ ¬ 200000 < lenQ (s.data.toList.drop p) ∧ s.size - p < 8 + lenQ (s.data.toList.drop p)) : Calls Tryz.prog 53 #[.string s, .int .i64 p] w (GetRIs (getL s.data.toList p) w) := by
  have hln : (s.data.toList.drop p).length = s.size - p := by rw [List.length_drop, data_len]
  have HG := hid (show getL s.data.toList p = (noRec, 0, 5) from getL_of (l := s.data.toList) (p := p) (e := 5) (by unfold getQ; rw [if_neg (by omega), if_neg hk.2.1, if_pos (by omega)]))
  obtain ⟨p4, hp4⟩ : ∃ q, q = p + 4 := ⟨_, rfl⟩
  have e4 : (p : Int) + 4 = (p4 : Int) := by omega
  have w4 : IntKind.i64.wrap (p4 : Int) = (p4 : Int) := wrap64_id (by omega)
  have hp0 : ¬ (p : Int) < 0 := by omega
  have hps : ¬ (s.size : Int) < (p : Int) := by omega
  obtain ⟨n, hn⟩ : ∃ n, n = lenQ (s.data.toList.drop p) := ⟨_, rfl⟩
  have hnN : getN s p 4 = n := by rw [hn]; rfl
  have O1 := hid (show ∀ y : World, Calls Tryz.prog 84 #[.string s, .int .i64 p, .int .i64 4] y (fun e w' => e = .returned (.tuple #[.int .u64 n, .bool true]) ∧ Below y.heap.size y w') from fun y => by have h2 := get_yes s p 4 (by unfold okSize; decide) (by omega) (by omega) y; rw [hnN] at h2; exact h2)
  obtain ⟨m, hm⟩ : ∃ m, m = sumQ (s.data.toList.drop p) := ⟨_, rfl⟩
  have hmN : getN s p4 4 = m := by rw [hm, hp4]; unfold getN sumQ; rw [List.drop_drop]
  have O2 := hid (show ∀ y : World, Calls Tryz.prog 84 #[.string s, .int .i64 p4, .int .i64 4] y (fun e w' => e = .returned (.tuple #[.int .u64 m, .bool true]) ∧ Below y.heap.size y w') from fun y => by have h2 := get_yes s p4 4 (by unfold okSize; decide) (by omega) (by omega) y; rw [hmN] at h2; exact h2)
  have hbig : ¬ (200000 : Int) < (n : Int) := by omega
  have wn : IntKind.i64.wrap (n : Int) = (n : Int) := wrap64_id (by omega)
  obtain ⟨d, hd⟩ : ∃ d, d = s.size - p := ⟨_, rfl⟩
  obtain ⟨d8, hd8⟩ : ∃ d8, d8 = d - 8 := ⟨_, rfl⟩
  have ed : (s.size : Int) - (p : Int) = (d : Int) := by omega
  have wd : IntKind.i64.wrap (d : Int) = (d : Int) := wrap64_id (by omega)
  have ed8 : (d : Int) - 8 = (d8 : Int) := by omega
  have wd8 : IntKind.i64.wrap (d8 : Int) = (d8 : Int) := wrap64_id (by omega)
  have hlt : (d8 : Int) < (n : Int) := by omega
  have HU := hid (show True from trivial)
  clear hk hs hp hln hp4 hn hnN hm hmN hd hd8
  go_enter Tryz.func53, Tryz.ntmps53
  go_upto_region 1 with fail
  have hz := heap_alloc_new w (.cells #[.int .i64 0, .int .i64 0, .int .u32 0, .slice none 0 0, .slice none 0 0, .int .u32 0, .int .i64 0, .string ⟨#[]⟩, .int .u32 0, .int .i64 0, .int .i64 0, .int .u16 0, .int .u16 0, .int .u32 0, .int .i64 0, .int .i64 0, .int .i64 0, .int .i64 0] 35)
  have hal : Below w.heap.size w (w.alloc (.cells #[.int .i64 0, .int .i64 0, .int .u32 0, .slice none 0 0, .slice none 0 0, .int .u32 0, .int .i64 0, .string ⟨#[]⟩, .int .u32 0, .int .i64 0, .int .i64 0, .int .u16 0, .int .u16 0, .int .u32 0, .int .i64 0, .int .i64 0, .int .i64 0, .int .i64 0] 35)) := (Below.refl _ _).alloc (Nat.le_refl _) _
  obtain ⟨X, hX⟩ : ∃ q, q = w.heap.size := ⟨_, rfl⟩
  rw [← hX] at hz ⊢
  generalize w.alloc (.cells #[.int .i64 0, .int .i64 0, .int .u32 0, .slice none 0 0, .slice none 0 0, .int .u32 0, .int .i64 0, .string ⟨#[]⟩, .int .u32 0, .int .i64 0, .int .i64 0, .int .u16 0, .int .u16 0, .int .u32 0, .int .i64 0, .int .i64 0, .int .i64 0, .int .i64 0] 35) = w0 at *
  have HX := hid hz
  have HB := hid hal
  have HXX := hid hX
  clear hz hal hX
  go_wp2_with fail
  refine (O1.out w0).mono ?_
  rintro e w1 ⟨rfl, hb⟩
  have HX := hid ((hb.block X (Array.getElem?_eq_some_iff.1 HX.out).1).trans HX.out)
  have HB := hid (HB.out.trans (hb.mono HB.out.size))
  clear hb
  go_wp2_with fail
  refine (O2.out w1).mono ?_
  rintro e w2 ⟨rfl, hb⟩
  have HX := hid ((hb.block X (Array.getElem?_eq_some_iff.1 HX.out).1).trans HX.out)
  have HB := hid (HB.out.trans (hb.mono HB.out.size))
  clear hb
  go_wp2_with (first | (refine wpList_store_row rfl 35 (.tmp 4) (.tmp 58) rfl X #[.int .i64 0, .int .i64 0, .int .u32 0, .slice none 0 0, .slice none 0 0, .int .u32 0, .int .i64 0, .string ⟨#[]⟩, .int .u32 0, .int .i64 0, .int .i64 0, .int .u16 0, .int .u16 0, .int .u32 0, .int .i64 0, .int .i64 0, .int .i64 0, .int .i64 0] rfl rfl 35 _ HX.out (by kernel_rfl) rfl (by kernel_rfl) ?_))
  refine bodyPost_ret (v := .tuple #[.agg #[.int .i64 0, .int .i64 0, .int .u32 0, .slice none 0 0, .slice none 0 0, .int .u32 0, .int .i64 0, .string ⟨#[]⟩, .int .u32 0, .int .i64 0, .int .i64 0, .int .u16 0, .int .u16 0, .int .u32 0, .int .i64 0, .int .i64 0, .int .i64 0, .int .i64 0], .int .i64 0, .int .i64 5]) (results_cell_tmp2 (P := Tryz.prog) (p := 4) (q := 5) (q2 := 6) (ty := 35) Tryz.results53 _ _ X 35 #[.int .i64 0, .int .i64 0, .int .u32 0, .slice none 0 0, .slice none 0 0, .int .u32 0, .int .i64 0, .string ⟨#[]⟩, .int .u32 0, .int .i64 0, .int .i64 0, .int .u16 0, .int .u16 0, .int .u32 0, .int .i64 0, .int .i64 0, .int .i64 0, .int .i64 0] (0, 0) _ _ _ rfl rfl rfl (setRow_heap _ X _ _ _ _ HX.out) Tryz.underlying35 rfl (by kernel_rfl)) rfl ?_
  rw [HG.out]
  exact ⟨_, rfl, noRec_own _ _, below_rowE HB.out (Nat.le_of_eq HXX.out.symm) _⟩
set_option maxRecDepth 100000 in
set_option maxHeartbeats 4000000 in
theorem get_k5 (s : ByteArray) (p : Nat) (w : World) (hs : s.size ≤ 9223372036854775000) (hp : p ≤ s.size) (hk : 8 ≤ s.size - p ∧ ¬ 200000 < lenQ (s.data.toList.drop p) ∧ ¬ s.size - p < 8 + lenQ (s.data.toList.drop p) ∧ ¬ (crcL (payQ (s.data.toList.drop p))).toNat = sumQ (s.data.toList.drop p)) : Calls Tryz.prog 53 #[.string s, .int .i64 p] w (GetRIs (getL s.data.toList p) w) := by
  have hln : (s.data.toList.drop p).length = s.size - p := by rw [List.length_drop, data_len]
  have HG := hid (show getL s.data.toList p = (noRec, 0, 19) from getL_of (l := s.data.toList) (p := p) (e := 19) (by unfold getQ; rw [if_neg (by omega), if_neg hk.2.1, if_neg (by omega), if_pos hk.2.2.2]))
  obtain ⟨p4, hp4⟩ : ∃ q, q = p + 4 := ⟨_, rfl⟩
  have e4 : (p : Int) + 4 = (p4 : Int) := by omega
  have w4 : IntKind.i64.wrap (p4 : Int) = (p4 : Int) := wrap64_id (by omega)
  have hp0 : ¬ (p : Int) < 0 := by omega
  have hps : ¬ (s.size : Int) < (p : Int) := by omega
  obtain ⟨n, hn⟩ : ∃ n, n = lenQ (s.data.toList.drop p) := ⟨_, rfl⟩
  have hnN : getN s p 4 = n := by rw [hn]; rfl
  have O1 := hid (show ∀ y : World, Calls Tryz.prog 84 #[.string s, .int .i64 p, .int .i64 4] y (fun e w' => e = .returned (.tuple #[.int .u64 n, .bool true]) ∧ Below y.heap.size y w') from fun y => by have h2 := get_yes s p 4 (by unfold okSize; decide) (by omega) (by omega) y; rw [hnN] at h2; exact h2)
  obtain ⟨m, hm⟩ : ∃ m, m = sumQ (s.data.toList.drop p) := ⟨_, rfl⟩
  have hmN : getN s p4 4 = m := by rw [hm, hp4]; unfold getN sumQ; rw [List.drop_drop]
  have O2 := hid (show ∀ y : World, Calls Tryz.prog 84 #[.string s, .int .i64 p4, .int .i64 4] y (fun e w' => e = .returned (.tuple #[.int .u64 m, .bool true]) ∧ Below y.heap.size y w') from fun y => by have h2 := get_yes s p4 4 (by unfold okSize; decide) (by omega) (by omega) y; rw [hmN] at h2; exact h2)
  have hbig : ¬ (200000 : Int) < (n : Int) := by omega
  have wn : IntKind.i64.wrap (n : Int) = (n : Int) := wrap64_id (by omega)
  obtain ⟨d, hd⟩ : ∃ d, d = s.size - p := ⟨_, rfl⟩
  obtain ⟨d8, hd8⟩ : ∃ d8, d8 = d - 8 := ⟨_, rfl⟩
  have ed : (s.size : Int) - (p : Int) = (d : Int) := by omega
  have wd : IntKind.i64.wrap (d : Int) = (d : Int) := wrap64_id (by omega)
  have ed8 : (d : Int) - 8 = (d8 : Int) := by omega
  have wd8 : IntKind.i64.wrap (d8 : Int) = (d8 : Int) := wrap64_id (by omega)
  have hlt : ¬ (d8 : Int) < (n : Int) := by omega
  obtain ⟨a8, ha8⟩ : ∃ q, q = p + 8 := ⟨_, rfl⟩
  obtain ⟨z8, hz8⟩ : ∃ q, q = p + 8 + n := ⟨_, rfl⟩
  have ea : (p : Int) + 8 = (a8 : Int) := by omega
  have wa : IntKind.i64.wrap (a8 : Int) = (a8 : Int) := wrap64_id (by omega)
  have ez : (a8 : Int) + (n : Int) = (z8 : Int) := by omega
  have wz : IntKind.i64.wrap (z8 : Int) = (z8 : Int) := wrap64_id (by omega)
  have ha0 : (0 : Int) ≤ (a8 : Int) := by omega
  have haz : (a8 : Int) ≤ (z8 : Int) := by omega
  have hzs : (z8 : Int) ≤ (s.size : Int) := by omega
  obtain ⟨u, hu⟩ : ∃ u, u = s.extract a8 z8 := ⟨_, rfl⟩
  have hud : u.data.toList = payQ (s.data.toList.drop p) := by
    rw [hu, ha8, hz8]
    unfold payQ
    rw [← hn, List.drop_drop]
    simp [List.extract_eq_take_drop]
  have hus : u.size ≤ 9223372036854775000 := by rw [← data_len, hud]; unfold payQ; rw [List.length_take, List.length_drop]; omega
  obtain ⟨c, hc⟩ : ∃ c, c = (crcL (payQ (s.data.toList.drop p))).toNat := ⟨_, rfl⟩
  have hc32 : c < 4294967296 := by rw [hc]; exact (crcL _).isLt
  have OS := hid (show ∀ y : World, Calls Tryz.prog 42 #[.string u] y (fun e w' => e = .returned (.int .u32 c) ∧ y = w') from fun y => by have h2 := recsum_any u (by omega) y; rw [hud] at h2; rw [hc]; exact h2)
  have wc : IntKind.u64.wrap (c : Int) = (c : Int) := wrapu64_id (by omega)
  have hcm : ¬ (c : Int) = (m : Int) := by have := hk.2.2.2; omega
  have hcm2 : ((c : Int) == (m : Int)) = false := by rw [beq_eq_false_iff_ne]; exact hcm
  have HU := hid (show True from trivial)
  have HU := hid hu
  clear hk hs hp hln hp4 hn hnN hm hmN hd hd8 ha8 hz8 hud hus hc hc32
  go_enter Tryz.func53, Tryz.ntmps53
  go_upto_region 1 with fail
  have hz := heap_alloc_new w (.cells #[.int .i64 0, .int .i64 0, .int .u32 0, .slice none 0 0, .slice none 0 0, .int .u32 0, .int .i64 0, .string ⟨#[]⟩, .int .u32 0, .int .i64 0, .int .i64 0, .int .u16 0, .int .u16 0, .int .u32 0, .int .i64 0, .int .i64 0, .int .i64 0, .int .i64 0] 35)
  have hal : Below w.heap.size w (w.alloc (.cells #[.int .i64 0, .int .i64 0, .int .u32 0, .slice none 0 0, .slice none 0 0, .int .u32 0, .int .i64 0, .string ⟨#[]⟩, .int .u32 0, .int .i64 0, .int .i64 0, .int .u16 0, .int .u16 0, .int .u32 0, .int .i64 0, .int .i64 0, .int .i64 0, .int .i64 0] 35)) := (Below.refl _ _).alloc (Nat.le_refl _) _
  obtain ⟨X, hX⟩ : ∃ q, q = w.heap.size := ⟨_, rfl⟩
  rw [← hX] at hz ⊢
  generalize w.alloc (.cells #[.int .i64 0, .int .i64 0, .int .u32 0, .slice none 0 0, .slice none 0 0, .int .u32 0, .int .i64 0, .string ⟨#[]⟩, .int .u32 0, .int .i64 0, .int .i64 0, .int .u16 0, .int .u16 0, .int .u32 0, .int .i64 0, .int .i64 0, .int .i64 0, .int .i64 0] 35) = w0 at *
  have HX := hid hz
  have HB := hid hal
  have HXX := hid hX
  clear hz hal hX
  go_wp2_with fail
  refine (O1.out w0).mono ?_
  rintro e w1 ⟨rfl, hb⟩
  have HX := hid ((hb.block X (Array.getElem?_eq_some_iff.1 HX.out).1).trans HX.out)
  have HB := hid (HB.out.trans (hb.mono HB.out.size))
  clear hb
  go_wp2_with fail
  refine (O2.out w1).mono ?_
  rintro e w2 ⟨rfl, hb⟩
  have HX := hid ((hb.block X (Array.getElem?_eq_some_iff.1 HX.out).1).trans HX.out)
  have HB := hid (HB.out.trans (hb.mono HB.out.size))
  clear hb
  rw [hu] at OS
  go_wp2_with fail
  refine (OS.out w2).mono ?_
  rintro e w3 ⟨rfl, rfl⟩
  go_wp2_with (first | (refine wpList_store_row rfl 35 (.tmp 4) (.tmp 74) rfl X #[.int .i64 0, .int .i64 0, .int .u32 0, .slice none 0 0, .slice none 0 0, .int .u32 0, .int .i64 0, .string ⟨#[]⟩, .int .u32 0, .int .i64 0, .int .i64 0, .int .u16 0, .int .u16 0, .int .u32 0, .int .i64 0, .int .i64 0, .int .i64 0, .int .i64 0] rfl rfl 35 _ HX.out (by kernel_rfl) rfl (by kernel_rfl) ?_))
  refine bodyPost_ret (v := .tuple #[.agg #[.int .i64 0, .int .i64 0, .int .u32 0, .slice none 0 0, .slice none 0 0, .int .u32 0, .int .i64 0, .string ⟨#[]⟩, .int .u32 0, .int .i64 0, .int .i64 0, .int .u16 0, .int .u16 0, .int .u32 0, .int .i64 0, .int .i64 0, .int .i64 0, .int .i64 0], .int .i64 0, .int .i64 19]) (results_cell_tmp2 (P := Tryz.prog) (p := 4) (q := 5) (q2 := 6) (ty := 35) Tryz.results53 _ _ X 35 #[.int .i64 0, .int .i64 0, .int .u32 0, .slice none 0 0, .slice none 0 0, .int .u32 0, .int .i64 0, .string ⟨#[]⟩, .int .u32 0, .int .i64 0, .int .i64 0, .int .u16 0, .int .u16 0, .int .u32 0, .int .i64 0, .int .i64 0, .int .i64 0, .int .i64 0] (0, 0) _ _ _ rfl rfl rfl (setRow_heap _ X _ _ _ _ HX.out) Tryz.underlying35 rfl (by kernel_rfl)) rfl ?_
  rw [HG.out]
  exact ⟨_, rfl, noRec_own _ _, below_rowE HB.out (Nat.le_of_eq HXX.out.symm) _⟩
set_option maxRecDepth 100000 in
set_option maxHeartbeats 4000000 in
theorem get_k6 (s : ByteArray) (p : Nat) (w : World) (hs : s.size ≤ 9223372036854775000) (hp : p ≤ s.size) (hk : 8 ≤ s.size - p ∧ ¬ 200000 < lenQ (s.data.toList.drop p) ∧ ¬ s.size - p < 8 + lenQ (s.data.toList.drop p) ∧ (crcL (payQ (s.data.toList.drop p))).toNat = sumQ (s.data.toList.drop p)) : Calls Tryz.prog 53 #[.string s, .int .i64 p] w (GetRIs (getL s.data.toList p) w) := by
  have hln : (s.data.toList.drop p).length = s.size - p := by rw [List.length_drop, data_len]
  obtain ⟨g6, hg6⟩ : ∃ g, g = goodP (payQ (s.data.toList.drop p)) := ⟨_, rfl⟩
  have HG := hid (show getQ (s.data.toList.drop p) = if g6 = false then (noRec, 0, 4) else ((parseP (payQ (s.data.toList.drop p))).2, 8 + lenQ (s.data.toList.drop p), 0) from by unfold getQ; rw [if_neg (by omega), if_neg hk.2.1, if_neg (by omega), if_neg (fun h => h hk.2.2.2), hg6])
  obtain ⟨p4, hp4⟩ : ∃ q, q = p + 4 := ⟨_, rfl⟩
  have e4 : (p : Int) + 4 = (p4 : Int) := by omega
  have w4 : IntKind.i64.wrap (p4 : Int) = (p4 : Int) := wrap64_id (by omega)
  have hp0 : ¬ (p : Int) < 0 := by omega
  have hps : ¬ (s.size : Int) < (p : Int) := by omega
  obtain ⟨n, hn⟩ : ∃ n, n = lenQ (s.data.toList.drop p) := ⟨_, rfl⟩
  have hnN : getN s p 4 = n := by rw [hn]; rfl
  have O1 := hid (show ∀ y : World, Calls Tryz.prog 84 #[.string s, .int .i64 p, .int .i64 4] y (fun e w' => e = .returned (.tuple #[.int .u64 n, .bool true]) ∧ Below y.heap.size y w') from fun y => by have h2 := get_yes s p 4 (by unfold okSize; decide) (by omega) (by omega) y; rw [hnN] at h2; exact h2)
  obtain ⟨m, hm⟩ : ∃ m, m = sumQ (s.data.toList.drop p) := ⟨_, rfl⟩
  have hmN : getN s p4 4 = m := by rw [hm, hp4]; unfold getN sumQ; rw [List.drop_drop]
  have O2 := hid (show ∀ y : World, Calls Tryz.prog 84 #[.string s, .int .i64 p4, .int .i64 4] y (fun e w' => e = .returned (.tuple #[.int .u64 m, .bool true]) ∧ Below y.heap.size y w') from fun y => by have h2 := get_yes s p4 4 (by unfold okSize; decide) (by omega) (by omega) y; rw [hmN] at h2; exact h2)
  have hbig : ¬ (200000 : Int) < (n : Int) := by omega
  have wn : IntKind.i64.wrap (n : Int) = (n : Int) := wrap64_id (by omega)
  obtain ⟨d, hd⟩ : ∃ d, d = s.size - p := ⟨_, rfl⟩
  obtain ⟨d8, hd8⟩ : ∃ d8, d8 = d - 8 := ⟨_, rfl⟩
  have ed : (s.size : Int) - (p : Int) = (d : Int) := by omega
  have wd : IntKind.i64.wrap (d : Int) = (d : Int) := wrap64_id (by omega)
  have ed8 : (d : Int) - 8 = (d8 : Int) := by omega
  have wd8 : IntKind.i64.wrap (d8 : Int) = (d8 : Int) := wrap64_id (by omega)
  have hlt : ¬ (d8 : Int) < (n : Int) := by omega
  obtain ⟨a8, ha8⟩ : ∃ q, q = p + 8 := ⟨_, rfl⟩
  obtain ⟨z8, hz8⟩ : ∃ q, q = p + 8 + n := ⟨_, rfl⟩
  have ea : (p : Int) + 8 = (a8 : Int) := by omega
  have wa : IntKind.i64.wrap (a8 : Int) = (a8 : Int) := wrap64_id (by omega)
  have ez : (a8 : Int) + (n : Int) = (z8 : Int) := by omega
  have wz : IntKind.i64.wrap (z8 : Int) = (z8 : Int) := wrap64_id (by omega)
  have ha0 : (0 : Int) ≤ (a8 : Int) := by omega
  have haz : (a8 : Int) ≤ (z8 : Int) := by omega
  have hzs : (z8 : Int) ≤ (s.size : Int) := by omega
  obtain ⟨u, hu⟩ : ∃ u, u = s.extract a8 z8 := ⟨_, rfl⟩
  have hud : u.data.toList = payQ (s.data.toList.drop p) := by
    rw [hu, ha8, hz8]
    unfold payQ
    rw [← hn, List.drop_drop]
    simp [List.extract_eq_take_drop]
  have hus : u.size ≤ 9223372036854775000 := by rw [← data_len, hud]; unfold payQ; rw [List.length_take, List.length_drop]; omega
  obtain ⟨c, hc⟩ : ∃ c, c = (crcL (payQ (s.data.toList.drop p))).toNat := ⟨_, rfl⟩
  have hc32 : c < 4294967296 := by rw [hc]; exact (crcL _).isLt
  have OS := hid (show ∀ y : World, Calls Tryz.prog 42 #[.string u] y (fun e w' => e = .returned (.int .u32 c) ∧ y = w') from fun y => by have h2 := recsum_any u (by omega) y; rw [hud] at h2; rw [hc]; exact h2)
  have wc : IntKind.u64.wrap (c : Int) = (c : Int) := wrapu64_id (by omega)
  have hcm : c = m := by rw [hc, hm]; exact hk.2.2.2
  have OP := hid (show ∀ y : World, Calls Tryz.prog 85 #[.string u] y (fun e w' => ∃ v, e = .returned (.tuple #[v, .bool g6]) ∧ RecOwn y.heap.size w' v (parseP (payQ (s.data.toList.drop p))).2 ∧ Below y.heap.size y w') from fun y => by have h2 := rparse_any u y hus; rw [hud, ← hg6] at h2; exact h2)
  obtain ⟨pr, hpr⟩ : ∃ r, r = (parseP (payQ (s.data.toList.drop p))).2 := ⟨_, rfl⟩
  rw [← hpr] at OP HG
  have HZ8 := hid (show z8 = p + (8 + lenQ (s.data.toList.drop p)) from by rw [← hn]; omega)
  subst hcm
  have HU := hid hu
  clear hk hs hp hln hp4 hn hnN hm hmN hd hd8 ha8 hz8 hud hus hc hc32 hg6 hpr
  go_enter Tryz.func53, Tryz.ntmps53
  go_upto_region 1 with fail
  have hz := heap_alloc_new w (.cells #[.int .i64 0, .int .i64 0, .int .u32 0, .slice none 0 0, .slice none 0 0, .int .u32 0, .int .i64 0, .string ⟨#[]⟩, .int .u32 0, .int .i64 0, .int .i64 0, .int .u16 0, .int .u16 0, .int .u32 0, .int .i64 0, .int .i64 0, .int .i64 0, .int .i64 0] 35)
  have hal : Below w.heap.size w (w.alloc (.cells #[.int .i64 0, .int .i64 0, .int .u32 0, .slice none 0 0, .slice none 0 0, .int .u32 0, .int .i64 0, .string ⟨#[]⟩, .int .u32 0, .int .i64 0, .int .i64 0, .int .u16 0, .int .u16 0, .int .u32 0, .int .i64 0, .int .i64 0, .int .i64 0, .int .i64 0] 35)) := (Below.refl _ _).alloc (Nat.le_refl _) _
  obtain ⟨X, hX⟩ : ∃ q, q = w.heap.size := ⟨_, rfl⟩
  rw [← hX] at hz ⊢
  generalize w.alloc (.cells #[.int .i64 0, .int .i64 0, .int .u32 0, .slice none 0 0, .slice none 0 0, .int .u32 0, .int .i64 0, .string ⟨#[]⟩, .int .u32 0, .int .i64 0, .int .i64 0, .int .u16 0, .int .u16 0, .int .u32 0, .int .i64 0, .int .i64 0, .int .i64 0, .int .i64 0] 35) = w0 at *
  have HX := hid hz
  have HB := hid hal
  have HXX := hid hX
  clear hz hal hX
  go_wp2_with fail
  refine (O1.out w0).mono ?_
  rintro e w1 ⟨rfl, hb⟩
  have HX := hid ((hb.block X (Array.getElem?_eq_some_iff.1 HX.out).1).trans HX.out)
  have HB := hid (HB.out.trans (hb.mono HB.out.size))
  clear hb
  go_wp2_with fail
  refine (O2.out w1).mono ?_
  rintro e w2 ⟨rfl, hb⟩
  have HX := hid ((hb.block X (Array.getElem?_eq_some_iff.1 HX.out).1).trans HX.out)
  have HB := hid (HB.out.trans (hb.mono HB.out.size))
  clear hb
  rw [hu] at OS OP
  go_wp2_with fail
  refine (OS.out w2).mono ?_
  rintro e w3 ⟨rfl, rfl⟩
  go_wp2_with fail
  refine (OP.out w2).mono ?_
  rintro e w4 ⟨v, rfl, ho, hb⟩
  have HBB := hid (show X < w2.heap.size ∧ w.heap.size ≤ w2.heap.size from ⟨(Array.getElem?_eq_some_iff.1 HX.out).1, HB.out.size⟩)
  have HX := hid ((hb.block X (Array.getElem?_eq_some_iff.1 HX.out).1).trans HX.out)
  have HB := hid (HB.out.trans (hb.mono HB.out.size))
  obtain ⟨va, vb, rfl, hto, hok⟩ := ho
  obtain ⟨ia, ic, rfl, -, -⟩ := hto.at_.1.shape
  obtain ⟨oa, oc, rfl, -, -⟩ := hto.at_.2.shape
  have HO := hid (show RecOwn w2.heap.size w4 (.agg #[.int .i64 pr.kind, .int .i64 pr.num, .int .u32 pr.tx.ver, .slice ia pr.tx.ins.length ic, .slice oa pr.tx.outs.length oc, .int .u32 pr.tx.lock, .int .i64 pr.index, .string pr.id, .int .u32 pr.idx, .int .i64 pr.val, .int .i64 pr.br, .int .u16 pr.tag, .int .u16 pr.delay, .int .u32 pr.height, .int .i64 pr.dead, .int .i64 pr.budget, .int .i64 pr.start, .int .i64 pr.fee]) pr from ⟨_, _, rfl, hto, hok⟩)
  clear hb hto hok
  have HNW := hid (heap_alloc_new w4 (.cells #[.int .i64 0, .int .i64 0, .int .u32 0, .slice none 0 0, .slice none 0 0, .int .u32 0, .int .i64 0, .string ⟨#[]⟩, .int .u32 0, .int .i64 0, .int .i64 0, .int .u16 0, .int .u16 0, .int .u32 0, .int .i64 0, .int .i64 0, .int .i64 0, .int .i64 0] 35))
  have HNR := hid (setRow_heap (w4.alloc (.cells #[.int .i64 0, .int .i64 0, .int .u32 0, .slice none 0 0, .slice none 0 0, .int .u32 0, .int .i64 0, .string ⟨#[]⟩, .int .u32 0, .int .i64 0, .int .i64 0, .int .u16 0, .int .u16 0, .int .u32 0, .int .i64 0, .int .i64 0, .int .i64 0, .int .i64 0] 35)) w4.heap.size _ #[.int .i64 pr.kind, .int .i64 pr.num, .int .u32 pr.tx.ver, .slice ia pr.tx.ins.length ic, .slice oa pr.tx.outs.length oc, .int .u32 pr.tx.lock, .int .i64 pr.index, .string pr.id, .int .u32 pr.idx, .int .i64 pr.val, .int .i64 pr.br, .int .u16 pr.tag, .int .u16 pr.delay, .int .u32 pr.height, .int .i64 pr.dead, .int .i64 pr.budget, .int .i64 pr.start, .int .i64 pr.fee] _ _ HNW.out)
  have HAL := hid (show Below w4.heap.size w4 ((w4.alloc (.cells #[.int .i64 0, .int .i64 0, .int .u32 0, .slice none 0 0, .slice none 0 0, .int .u32 0, .int .i64 0, .string ⟨#[]⟩, .int .u32 0, .int .i64 0, .int .i64 0, .int .u16 0, .int .u16 0, .int .u32 0, .int .i64 0, .int .i64 0, .int .i64 0, .int .i64 0] 35)).setRow w4.heap.size #[.int .i64 pr.kind, .int .i64 pr.num, .int .u32 pr.tx.ver, .slice ia pr.tx.ins.length ic, .slice oa pr.tx.outs.length oc, .int .u32 pr.tx.lock, .int .i64 pr.index, .string pr.id, .int .u32 pr.idx, .int .i64 pr.val, .int .i64 pr.br, .int .u16 pr.tag, .int .u16 pr.delay, .int .u32 pr.height, .int .i64 pr.dead, .int .i64 pr.budget, .int .i64 pr.start, .int .i64 pr.fee]) from below_rowE ((Below.refl _ _).alloc (Nat.le_refl _) _) (Nat.le_refl _) _)
  go_upto_region 15 with (refine wpList_store_row rfl 35 (.tmp 13) (.tmp 81) rfl w4.heap.size #[.int .i64 pr.kind, .int .i64 pr.num, .int .u32 pr.tx.ver, .slice ia pr.tx.ins.length ic, .slice oa pr.tx.outs.length oc, .int .u32 pr.tx.lock, .int .i64 pr.index, .string pr.id, .int .u32 pr.idx, .int .i64 pr.val, .int .i64 pr.br, .int .u16 pr.tag, .int .u16 pr.delay, .int .u32 pr.height, .int .i64 pr.dead, .int .i64 pr.budget, .int .i64 pr.start, .int .i64 pr.fee] rfl rfl 35 _ HNW.out (by kernel_rfl) rfl (by kernel_rfl) ?_)
  clear HNW
  obtain ⟨V, hV⟩ : ∃ q, q = w4.heap.size := ⟨_, rfl⟩
  rw [← hV]
  have hz := HNR.out
  have hal := HAL.out
  clear HNR HAL
  rw [← hV] at hz hal
  generalize World.setRow _ V _ = w5 at *
  rw [hV] at hal
  have HV := hid hz
  have HX := hid ((hal.block X (Array.getElem?_eq_some_iff.1 HX.out).1).trans HX.out)
  have HB := hid (HB.out.trans (hal.mono HB.out.size))
  have HO := hid (HO.out.below hal)
  clear hz hal hV
  cases g6 with
  | false =>
    go_wp2_with (first | (refine wpList_store_row rfl 35 (.tmp 4) (.tmp 85) rfl X #[.int .i64 0, .int .i64 0, .int .u32 0, .slice none 0 0, .slice none 0 0, .int .u32 0, .int .i64 0, .string ⟨#[]⟩, .int .u32 0, .int .i64 0, .int .i64 0, .int .u16 0, .int .u16 0, .int .u32 0, .int .i64 0, .int .i64 0, .int .i64 0, .int .i64 0] rfl rfl 35 _ HX.out (by kernel_rfl) rfl (by kernel_rfl) ?_))
    have HG := hid (show getL s.data.toList p = (noRec, 0, 4) from getL_of (l := s.data.toList) (p := p) (e := 4) (by rw [HG.out]; rfl))
    refine bodyPost_ret (v := .tuple #[.agg #[.int .i64 0, .int .i64 0, .int .u32 0, .slice none 0 0, .slice none 0 0, .int .u32 0, .int .i64 0, .string ⟨#[]⟩, .int .u32 0, .int .i64 0, .int .i64 0, .int .u16 0, .int .u16 0, .int .u32 0, .int .i64 0, .int .i64 0, .int .i64 0, .int .i64 0], .int .i64 0, .int .i64 4]) (results_cell_tmp2 (P := Tryz.prog) (p := 4) (q := 5) (q2 := 6) (ty := 35) Tryz.results53 _ _ X 35 #[.int .i64 0, .int .i64 0, .int .u32 0, .slice none 0 0, .slice none 0 0, .int .u32 0, .int .i64 0, .string ⟨#[]⟩, .int .u32 0, .int .i64 0, .int .i64 0, .int .u16 0, .int .u16 0, .int .u32 0, .int .i64 0, .int .i64 0, .int .i64 0, .int .i64 0] (0, 0) _ _ _ rfl rfl rfl (setRow_heap _ X _ _ _ _ HX.out) Tryz.underlying35 rfl (by kernel_rfl)) rfl ?_
    rw [HG.out]
    exact ⟨_, rfl, noRec_own _ _, below_rowE HB.out (Nat.le_of_eq HXX.out.symm) _⟩
  | true =>
    go_wp2_with (first | (refine wpList_load_row rfl 35 (.tmp 13) rfl V rfl 35 _ (0, 0) _ HV.out Tryz.underlying35 rfl (by kernel_rfl) ?_) | (refine wpList_store_row rfl 35 (.tmp 4) (.tmp 86) rfl X #[.int .i64 pr.kind, .int .i64 pr.num, .int .u32 pr.tx.ver, .slice ia pr.tx.ins.length ic, .slice oa pr.tx.outs.length oc, .int .u32 pr.tx.lock, .int .i64 pr.index, .string pr.id, .int .u32 pr.idx, .int .i64 pr.val, .int .i64 pr.br, .int .u16 pr.tag, .int .u16 pr.delay, .int .u32 pr.height, .int .i64 pr.dead, .int .i64 pr.budget, .int .i64 pr.start, .int .i64 pr.fee] rfl rfl 35 _ HX.out (by kernel_rfl) rfl (by kernel_rfl) ?_))
    refine bodyPost_ret (v := .tuple #[.agg #[.int .i64 pr.kind, .int .i64 pr.num, .int .u32 pr.tx.ver, .slice ia pr.tx.ins.length ic, .slice oa pr.tx.outs.length oc, .int .u32 pr.tx.lock, .int .i64 pr.index, .string pr.id, .int .u32 pr.idx, .int .i64 pr.val, .int .i64 pr.br, .int .u16 pr.tag, .int .u16 pr.delay, .int .u32 pr.height, .int .i64 pr.dead, .int .i64 pr.budget, .int .i64 pr.start, .int .i64 pr.fee], .int .i64 z8, .int .i64 0]) (results_cell_tmp2 (P := Tryz.prog) (p := 4) (q := 5) (q2 := 6) (ty := 35) Tryz.results53 _ _ X 35 #[.int .i64 pr.kind, .int .i64 pr.num, .int .u32 pr.tx.ver, .slice ia pr.tx.ins.length ic, .slice oa pr.tx.outs.length oc, .int .u32 pr.tx.lock, .int .i64 pr.index, .string pr.id, .int .u32 pr.idx, .int .i64 pr.val, .int .i64 pr.br, .int .u16 pr.tag, .int .u16 pr.delay, .int .u32 pr.height, .int .i64 pr.dead, .int .i64 pr.budget, .int .i64 pr.start, .int .i64 pr.fee] (0, 0) _ _ _ rfl rfl rfl (setRow_heap _ X _ _ _ _ HX.out) Tryz.underlying35 rfl (by kernel_rfl)) rfl ?_
    have hgl : getL s.data.toList p = (pr, z8, 0) := by unfold getL; rw [HG.out, HZ8.out]; rfl
    rw [hgl]
    exact ⟨_, rfl, (HO.out.fr (Fr.row (F := [X]) _ _ _ (by simp)) (by intro j hj; simp at hj; have := HBB.out; omega)).base HBB.out.2, below_rowE HB.out (Nat.le_of_eq HXX.out.symm) _⟩
theorem recget_any (s : ByteArray) (p : Nat) (w : World) (hs : s.size ≤ 9223372036854775000) (hp : p ≤ s.size) : Calls Tryz.prog 53 #[.string s, .int .i64 p] w (GetRIs (getL s.data.toList p) w) := by
  by_cases h1 : s.size - p < 4
  · exact get_k1 s p w hs hp h1
  by_cases h2 : s.size - p < 8
  · exact get_k2 s p w hs hp ⟨by omega, h2⟩
  have h8 : 8 ≤ s.size - p := by omega
  by_cases h3 : 200000 < lenQ (s.data.toList.drop p)
  · exact get_k3 s p w hs hp ⟨h8, h3⟩
  by_cases h4 : s.size - p < 8 + lenQ (s.data.toList.drop p)
  · exact get_k4 s p w hs hp ⟨h8, h3, h4⟩
  by_cases h5 : (crcL (payQ (s.data.toList.drop p))).toNat = sumQ (s.data.toList.drop p)
  · exact get_k6 s p w hs hp ⟨h8, h3, h4, h5⟩
  exact get_k5 s p w hs hp ⟨h8, h3, h4, h5⟩
end Go.Proofs.YtaooibocknemkaaGreat
