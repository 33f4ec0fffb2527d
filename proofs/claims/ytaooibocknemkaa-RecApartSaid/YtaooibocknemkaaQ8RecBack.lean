/-
  RecBack, part 8: the texts En, Eg, Ep, Eq, TxVs, Rc, Rd, one after another. Conditions: none beyond those named at each.
-/
import Derived.Test.YtaooibocknemkaaQ7RecBack
import Derived.Test.YtaooibocknemkaaRb
import Derived.Test.YtaooibocknemkaaQ6RecBack
import Derived.Test.YtaooibocknemkaaQ5RecBack
import Derived.BigRegion
import Derived.Test.YtaooibocknemkaaQ1RecBack
import Derived.Test.YtaooibocknemkaaCut
section
/-
  rec's reader of a payload: take, number. Conditions: the reader stands in a block; its text is no longer than a text may be.
-/
namespace Go.Proofs.Ytaooibocknemkaa
open Go.RowKit Go.BigFrame
set_option linter.unusedVariables false
set_option linter.unusedSimpArgs false
/-- A reader of a payload in a block. -/
def PdAt (b : Nat) (x : RdS) (w : World) : Prop := w.heap[b]? = some (.cells #[.string (bL x.t), .bool x.ok] 77 (0, 0))
theorem PdAt.lt {b : Nat} {x : RdS} {w : World} (h : PdAt b x w) : b < w.heap.size := (Array.getElem?_eq_some_iff.1 h).1
theorem PdAt.below {b : Nat} {x : RdS} {w w' : World} (h : PdAt b x w) (hb : Below w.heap.size w w') : PdAt b x w' := (hb.block b h.lt).trans h
/-- It returns this value, the reader stands so, all else is as it was. -/
def PdIs (b : Nat) (x : RdS) (v : Value) (w : World) (e : Ending) (w' : World) : Prop := e = .returned v ∧ PdAt b x w' ∧ Fr [b] w w'
theorem bL_take (l : List UInt8) (n : Nat) (h : n ≤ l.length) : (bL l).extract 0 n = bL (l.take n) := by
  apply ByteArray.ext
  unfold bL
  apply Array.ext'
  simp [List.extract_eq_take_drop]
theorem bL_drop (l : List UInt8) (n : Nat) : (bL l).extract n (bL l).size = bL (l.drop n) := by
  apply ByteArray.ext
  rw [bL_size]
  unfold bL
  apply Array.ext'
  simp [List.extract_eq_take_drop]
  rw [List.take_of_length_le (by simp)]
set_option maxRecDepth 100000 in
set_option maxHeartbeats 2000000 in
theorem take_any (b : Nat) (x : RdS) (n : Nat) (w : World) (h : PdAt b x w) (hn : n ≤ 9223372036854775000) (hl : x.t.length ≤ 9223372036854775000) :
    Calls Try.prog 42 #[.pointer (some ⟨b, 0, none⟩), .int .i64 n] w (PdIs b (takeR n x).1 (.string (bL (takeR n x).2)) w) := by
  obtain ⟨t, ok⟩ := x
  dsimp only at hl
  obtain ⟨s, hs⟩ : ∃ s, s = bL t := ⟨_, rfl⟩
  have hsz : s.size = t.length := by rw [hs, bL_size]
  have h' : w.heap[b]? = some (.cells #[.string s, .bool ok] 77 (0, 0)) := hs ▸ h
  have d0 : w.cell? ⟨b, 0, none⟩ = some (.string s) := cell_at h'
  have d1 : w.cell? ⟨b, 1, none⟩ = some (.bool ok) := cell_at h'
  have f0 : w.frozen? ⟨b, 0, none⟩ = false := free_at h'
  have f1 : w.frozen? ⟨b, 1, none⟩ = false := free_at h'
  by_cases hbad : ok = false ∨ t.length < n
  · have HR := Lib.hid (show takeR n ⟨t, ok⟩ = (⟨t, false⟩, []) from by unfold takeR; rw [if_pos hbad])
    have HA := Lib.hid (show PdAt b ⟨t, false⟩ (w.setCell ⟨b, 1, none⟩ (.bool false)) from by
      have := heap_setCell_at (j := 1) (u := .bool false) h'
      unfold PdAt
      rw [← hs]
      exact this)
    cases ok
    · clear h h' hs hbad hsz hl
      go_enter Try.func42, Try.ntmps42
      go_wp2_with fail
      go_ret
      exact ⟨by rw [HR.out]; rfl, by rw [HR.out]; exact HA.out, Fr.setCell _ _ _ (by simp)⟩
    · have hlt : (s.size : Int) < (n : Int) := by
        rcases hbad with h0 | h0
        · cases h0
        · omega
      clear h h' hs hbad hsz hl
      go_enter Try.func42, Try.ntmps42
      go_wp2_with fail
      go_ret
      exact ⟨by rw [HR.out]; rfl, by rw [HR.out]; exact HA.out, Fr.setCell _ _ _ (by simp)⟩
  · have hok : ok = true := by cases ok with | true => rfl | false => exact absurd (.inl rfl) hbad
    subst hok
    have hle : ¬ t.length < n := fun e => hbad (.inr e)
    have HR := Lib.hid (show takeR n ⟨t, true⟩ = (⟨t.drop n, true⟩, t.take n) from by unfold takeR; rw [if_neg hbad])
    have hlt : ¬ (s.size : Int) < (n : Int) := by omega
    have hns : n ≤ s.size := by omega
    have hn0 : (0 : Int) ≤ (n : Int) := by omega
    have hni : (n : Int) ≤ (s.size : Int) := by omega
    have HT := Lib.hid (show s.extract 0 n = bL (t.take n) from by rw [hs]; exact bL_take t n (by omega))
    have HD := Lib.hid (show s.extract n s.size = bL (t.drop n) from by rw [hs]; exact bL_drop t n)
    have HA := Lib.hid (show PdAt b ⟨t.drop n, true⟩ (w.setCell ⟨b, 0, none⟩ (.string (s.extract n s.size))) from by
      have := heap_setCell_at (j := 0) (u := .string (s.extract n s.size)) h'
      unfold PdAt
      rw [← HD.out]
      exact this)
    clear h h' hs hbad hle hsz
    go_enter Try.func42, Try.ntmps42
    go_wp2_with fail
    go_ret
    exact ⟨by rw [HR.out, ← HT.out]; rfl, by rw [HR.out]; exact HA.out, Fr.setCell _ _ _ (by simp)⟩
set_option maxRecDepth 100000 in
set_option maxHeartbeats 2000000 in
theorem rnum_any (b : Nat) (x : RdS) (k : Nat) (w : World) (h : PdAt b x w) (hk : okSize k) (hl : x.t.length ≤ 9223372036854775000) :
    Calls Try.prog 28 #[.pointer (some ⟨b, 0, none⟩), .int .i64 k] w (PdIs b (numI k x).1 (.int .i64 (numI k x).2) w) := by
  have hk8 : k ≤ 8 := by unfold okSize at hk; omega
  have HT := Lib.hid (take_any b x k w h (by omega) hl)
  obtain ⟨q, hq⟩ : ∃ q, q = takeR k x := ⟨_, rfl⟩
  obtain ⟨n, hn⟩ : ∃ n, n = (numI k x).2 := ⟨_, rfl⟩
  have hx1 : (numI k x).1 = q.1 := by rw [hq]; rfl
  rw [hx1, ← hn]
  rw [← hq] at HT
  obtain ⟨s, hs⟩ : ∃ s, s = bL q.2 := ⟨_, rfl⟩
  rw [← hs] at HT
  obtain ⟨m, hm⟩ : ∃ m, m = leN q.2 := ⟨_, rfl⟩
  have hnm : IntKind.i64.wrap (m : Int) = n := by rw [hn, hm, hq]; rfl
  have HG := Lib.hid (show ∃ ok, ∀ y : World, Calls Try.prog 19 #[.string s, .int .i64 0, .int .i64 k] y (fun e w' => e = .returned (.tuple #[.int .u64 m, .bool ok]) ∧ Below y.heap.size y w') from by
    by_cases hok : (takeR k x).1.ok = true
    · obtain ⟨-, -, h3⟩ := takeR_again hok
      rw [← hq] at h3
      refine ⟨true, fun y => ?_⟩
      have hss : s.size = k := by rw [hs, bL_size, h3]
      have h5 := get_yes s 0 k hk (by omega) (by omega) y
      rw [show getN s 0 k = m from by rw [getN_pt, hm, hs, bL_list]; unfold pt; rw [List.drop_zero, List.take_of_length_le (by omega)]] at h5
      exact h5
    · have h3 := takeR_fail (n := k) (x := x) (by cases hh : (takeR k x).1.ok with | true => exact absurd hh hok | false => rfl)
      rw [← hq] at h3
      refine ⟨false, fun y => ?_⟩
      have hm0 : m = 0 := by rw [hm, h3]; rfl
      have hk1 : 0 < k := by unfold okSize at hk; omega
      have hs0 : s.size = 0 := by rw [hs, h3, bL_size]; rfl
      rw [hm0]
      exact get_no s 0 k hk (by omega) (.inr (by omega)) y)
  obtain ⟨gb, hg⟩ := HG.out
  have HG := Lib.hid hg
  clear hq hn hx1 hs hm hg
  go_enter Try.func28, Try.ntmps28
  go_wp2_with fail
  refine HT.out.mono ?_
  rintro e w1 ⟨rfl, ha, hf⟩
  have HA := Lib.hid ha
  have HF := Lib.hid hf
  clear ha hf HT
  go_wp2_with fail
  refine (HG.out w1).mono ?_
  rintro e w2 ⟨rfl, hb⟩
  have HA := Lib.hid (HA.out.below hb)
  have HF := Lib.hid (HF.out.trans' (Fr.bel hb))
  clear hb HG
  go_wp2_with fail
  go_ret
  exact ⟨rfl, HA.out, HF.out⟩
end Go.Proofs.Ytaooibocknemkaa
end

section
/-
  rec.plain: what its kind has of a record. Conditions: the record lies in memory.
-/
namespace Go.Proofs.Ytaooibocknemkaa
open Go.RowKit Go.BigFrame
set_option linter.unusedVariables false
set_option linter.unusedSimpArgs false

/-! ### many stores into one block -/
def stores (w : World) (b : Nat) : List (Nat × Value) → World
  | [] => w
  | p :: l => stores (w.setCell ⟨b, p.1, none⟩ p.2) b l
def storesA (cs : Array Value) : List (Nat × Value) → Array Value
  | [] => cs
  | p :: l => storesA (cs.setIfInBounds p.1 p.2) l
theorem stores_spec {b : Nat} {ty : TypeId} : ∀ (l : List (Nat × Value)) {w : World} {cs : Array Value}, w.heap[b]? = some (.cells cs ty (0, 0)) →
    (stores w b l).heap[b]? = some (.cells (storesA cs l) ty (0, 0)) ∧ (∀ c, c ≠ b → (stores w b l).heap[c]? = w.heap[c]?) ∧ ∀ B, B ≤ b → Below B w (stores w b l)
  | [], w, cs, h => ⟨h, fun _ _ => rfl, fun B _ => Below.refl B w⟩
  | p :: l, w, cs, h => by
    obtain ⟨h1, h2, h3⟩ := stores_spec l (heap_setCell_at (j := p.1) (u := p.2) h)
    refine ⟨h1, fun c hc => (h2 c hc).trans (Below.heap_setCell _ _ _ _ hc), fun B hB => ?_⟩
    exact ((Below.refl B w).setCell (p := ⟨b, p.1, none⟩) hB _).trans (h3 B hB)
theorem drew_heap {w : World} {b : Nat} {ob : Obj} (h : w.heap[b]? = some ob) : w.drew.heap[b]? = some ob := h
theorem slin_nil (w : World) : SlAt rpIn w (.slice none 0 0) [] := ⟨none, 0, rfl, Nat.le_refl _, Nat.zero_le _, fun i x hi => by simp at hi⟩
theorem slout_nil (w : World) : SlAt rpOut w (.slice none 0 0) [] := ⟨none, 0, rfl, Nat.le_refl _, Nat.zero_le _, fun i x hi => by simp at hi⟩
theorem z32 : (0 : Nat) < 4294967296 := by decide
theorem z16 : (0 : Nat) < 65536 := by decide
theorem zid : ByteArray.empty.size ≤ 9223372036854775807 := by decide
theorem i64R0 : i64R 0 := ⟨by decide, by decide⟩
theorem ownR_ok {r : PRec} (h : r.Ok) : (ownR r).Ok := by
  have z := i64R0
  unfold ownR noRec
  split
  · exact ⟨h.kind, h.num, h.ver, h.lock, h.index, zid, z32, z, h.br, h.tag, h.delay, h.height, h.dead, h.budget, h.start, z⟩
  · split
    · exact ⟨h.kind, h.num, z32, z32, z, h.id, h.idx, h.val, h.br, h.tag, h.delay, h.height, h.dead, h.budget, h.start, z⟩
    · split
      · exact ⟨h.kind, h.num, z32, z32, z, h.id, h.idx, z, z, z16, z16, z32, z, z, z, z⟩
      · split
        · exact ⟨h.kind, h.num, z32, z32, h.index, h.id, h.idx, z, z, z16, z16, z32, z, z, z, h.fee⟩
        · exact ⟨h.kind, h.num, z32, z32, z, zid, z32, z, z, z16, z16, z32, z, z, z, z⟩
def PlainP (r : PRec) (b : Bool) (w : World) (e : Ending) (w' : World) : Prop := ∃ v, e = .returned (.tuple #[v, .bool b]) ∧ RecAt w' v r ∧ Below w.heap.size w w'
theorem below_rowE {B g : Nat} {w0 w : World} (hb : Below B w0 w) (hBg : B ≤ g) (cs : Array Value) : Below B w0 (w.setRow g cs) :=
  ⟨hb.os, hb.tape, hb.output, by rw [setRow_size]; exact hb.size, fun k hk => by rw [setRow_other _ _ _ _ (by omega)]; exact hb.block k hk⟩
theorem box3 (w : World) (X : Nat) (hX : X = w.heap.size) (A B C D : Array Value) (t : TypeId) : (((w.alloc (.cells A t)).alloc (.cells B t)).alloc (.cells C t)).heap[X + 1 + 1]? = some (.cells C t (0, 0)) ∧
    ((((w.alloc (.cells A t)).alloc (.cells B t)).alloc (.cells C t)).setRow (X + 1 + 1) D).heap[X]? = some (.cells A t (0, 0)) ∧
    ((((w.alloc (.cells A t)).alloc (.cells B t)).alloc (.cells C t)).setRow (X + 1 + 1) D).heap[X + 1]? = some (.cells B t (0, 0)) ∧
    ((((w.alloc (.cells A t)).alloc (.cells B t)).alloc (.cells C t)).setRow (X + 1 + 1) D).heap[X + 1 + 1]? = some (.cells D t (0, 0)) ∧
    Below w.heap.size w ((((w.alloc (.cells A t)).alloc (.cells B t)).alloc (.cells C t)).setRow (X + 1 + 1) D) := by
  obtain ⟨hz0, hz1, hz2, hal⟩ := new3 w X hX (.cells A t) (.cells B t) (.cells C t)
  exact ⟨hz2, (setRow_other _ _ _ _ (by omega)).trans hz0, (setRow_other _ _ _ _ (by omega)).trans hz1, setRow_heap _ _ _ _ _ _ hz2, below_rowE hal (by omega) _⟩
theorem results_cell_tmp {P : Program} {fn : Func} {p q : Tmp} {ty : TypeId} (h : fn.results = #[.cell p ty, .tmp q]) (tmps : Array Value) (w : World) (g : Nat) (t : TypeId) (cs : Array Value) (fr : Nat × Nat) (d : TypeDesc) (u : Value)
    (hp : tmps.getD p undef = .pointer (some ⟨g, 0, none⟩)) (hu2 : tmps.getD q undef = u) (hg : w.heap[g]? = some (.cells cs t fr))
    (hu : P.underlying ty = some d) (hd : (match d with | .struct _ | .array _ _ => true | _ => false) = true) (hi : (P.info? ty).map (·.size) = some cs.size) :
    (results fn tmps).run P w = .ok (.tuple #[.agg cs, u]) w := by
  have hp' : tmps[p]?.getD undef = .pointer (some ⟨g, 0, none⟩) := by simpa using hp
  have hq' : tmps[q]?.getD undef = u := by simpa using hu2
  simp [results, h, hp', hq', asAddr, run_loadVar_row w g t ty cs fr d hg hu hd hi]
end Go.Proofs.Ytaooibocknemkaa
end

section
/-
  rec's reader of a payload: point. Conditions: the reader stands in a block; its text is no longer than a text may be.
-/
namespace Go.Proofs.Ytaooibocknemkaa
open Go.RowKit Go.BigFrame
set_option linter.unusedVariables false
set_option linter.unusedSimpArgs false
theorem takeR_le (n : Nat) (x : RdS) : (takeR n x).1.t.length ≤ x.t.length := by
  unfold takeR
  split
  · exact Nat.le_refl _
  · rw [List.length_drop]; omega
theorem numI_small {k : Nat} (hk : k ≤ 4) (x : RdS) : (numI k x).2 = ((numR k x).2 : Int) := by
  have h := numR_lt k x
  have h4 : 256 ^ k ≤ 256 ^ 4 := Nat.pow_le_pow_right (by decide) hk
  have e4 : (256 : Nat) ^ 4 = 4294967296 := rfl
  show IntKind.i64.wrap ((numR k x).2 : Int) = _
  rw [IntKind.wrap_i64]
  omega
theorem PdAt.fr {b : Nat} {x : RdS} {w w' : World} {F : List Nat} (h : PdAt b x w) (hf : Fr F w w') (hb : b ∉ F) : PdAt b x w' := (hf.block b h.lt hb).trans h
theorem wrap_u32n {n : Nat} (h : n < 4294967296) : IntKind.u32.wrap (n : Int) = n := by rw [IntKind.wrap_u32]; omega
theorem wrap_u16n {n : Nat} (h : n < 65536) : IntKind.u16.wrap (n : Int) = n := by rw [IntKind.wrap_u16]; omega
theorem stores_fr {b : Nat} {F : List Nat} (hb : b ∈ F) : ∀ (l : List (Nat × Value)) (w : World), Fr F w (stores w b l)
  | [], w => Fr.refl _ _
  | p :: l, w => (Fr.setCell w _ _ hb).trans' (stores_fr hb l _)
theorem results_cell1 {P : Program} {fn : Func} {p : Tmp} {ty : TypeId} (h : fn.results = #[.cell p ty]) (tmps : Array Value) (w : World) (g : Nat) (t : TypeId) (cs : Array Value) (fr : Nat × Nat) (d : TypeDesc)
    (hp : tmps.getD p undef = .pointer (some ⟨g, 0, none⟩)) (hg : w.heap[g]? = some (.cells cs t fr))
    (hu : P.underlying ty = some d) (hd : (match d with | .struct _ | .array _ _ => true | _ => false) = true) (hi : (P.info? ty).map (·.size) = some cs.size) :
    (results fn tmps).run P w = .ok (.agg cs) w := by
  have hp' : tmps[p]?.getD undef = .pointer (some ⟨g, 0, none⟩) := by simpa using hp
  simp [results, h, hp', asAddr, run_loadVar_row w g t ty cs fr d hg hu hd hi]
def pointS (x : RdS) : RdS := (numR 4 (takeR 32 x).1).1
def pointN (x : RdS) : Nat := (numR 4 (takeR 32 x).1).2
def pointV (x : RdS) : Value := .agg #[.string (bL (takeR 32 x).2), .int .u32 (pointN x)]
theorem pointP_eq (r : PRec) (x : RdS) : pointP r x = (pointS x, { r with id := bL (takeR 32 x).2, idx := pointN x }) := rfl
set_option maxRecDepth 100000 in
set_option maxHeartbeats 4000000 in
theorem rpoint_any (b : Nat) (x : RdS) (w : World) (h : PdAt b x w) (hl : x.t.length ≤ 9223372036854775000) :
    Calls Try.prog 31 #[.pointer (some ⟨b, 0, none⟩)] w (PdIs b (pointS x) (pointV x) w) := by
  obtain ⟨m, hm⟩ : ∃ m, m = pointN x := ⟨_, rfl⟩
  have hm4 : m < 4294967296 := by rw [hm]; exact numR_lt 4 _
  obtain ⟨s, hs⟩ : ∃ s, s = bL (takeR 32 x).2 := ⟨_, rfl⟩
  have hv : pointV x = .agg #[.string s, .int .u32 m] := by unfold pointV; rw [← hs, ← hm]
  rw [hv]
  obtain ⟨x1, hx1⟩ : ∃ x1, x1 = (takeR 32 x).1 := ⟨_, rfl⟩
  obtain ⟨x2, hx2⟩ : ∃ x2, x2 = pointS x := ⟨_, rfl⟩
  have HT := Lib.hid (show ∀ y : World, PdAt b x y → Calls Try.prog 42 #[.pointer (some ⟨b, 0, none⟩), .int .i64 32] y (PdIs b x1 (.string s) y) from fun y hy => by
    rw [hx1, hs]; exact take_any b x 32 y hy (by decide) hl)
  have HN := Lib.hid (show ∀ y : World, PdAt b x1 y → Calls Try.prog 28 #[.pointer (some ⟨b, 0, none⟩), .int .i64 4] y (PdIs b x2 (.int .i64 (m : Int)) y) from fun y hy => by
    have h2 := rnum_any b x1 4 y hy (by unfold okSize; decide) (by rw [hx1]; have := takeR_le 32 x; omega)
    rw [numI_small (by decide)] at h2
    rw [hx2, hm]
    unfold pointS pointN
    rw [← hx1]
    exact h2)
  rw [← hx2]
  clear hx1 hx2 hm hs hv hl
  have hlt := h.lt
  have HX := Lib.hid h
  have HW := Lib.hid (wrap_u32n hm4)
  clear h hm4
  go_enter Try.func31, Try.ntmps31
  go_upto_region 1 with fail
  have hz := heap_alloc_new w (.cells #[.string ⟨#[]⟩, .int .u32 0] 34)
  have hal : Below w.heap.size w (w.alloc (.cells #[.string ⟨#[]⟩, .int .u32 0] 34)) := (Below.refl _ _).alloc (Nat.le_refl _) _
  obtain ⟨X, hX⟩ : ∃ q, q = w.heap.size := ⟨_, rfl⟩
  rw [← hX] at hz ⊢
  generalize w.alloc (.cells #[.string ⟨#[]⟩, .int .u32 0] 34) = w0 at *
  have HZ := Lib.hid hz
  have HF := Lib.hid (show Fr [b] w w0 from Fr.bel hal)
  have HXX := Lib.hid hX
  have HP := Lib.hid (HX.out.below hal)
  have hbX := Lib.hid (show X ≠ b by omega)
  clear hz hal hX HX hlt
  go_wp2_with fail
  refine (HT.out w0 HP.out).mono ?_
  rintro e w1 ⟨rfl, ha, hf⟩
  have HP := Lib.hid ha
  have HZ := Lib.hid ((hf.block X (Array.getElem?_eq_some_iff.1 HZ.out).1 (by simpa using hbX.out)).trans HZ.out)
  have HF := Lib.hid (HF.out.trans' hf)
  clear ha hf HT
  go_wp2_with fail
  refine (HN.out w1 HP.out).mono ?_
  rintro e w2 ⟨rfl, ha, hf⟩
  have HP := Lib.hid ha
  have HZ := Lib.hid ((hf.block X (Array.getElem?_eq_some_iff.1 HZ.out).1 (by simpa using hbX.out)).trans HZ.out)
  have HF := Lib.hid (HF.out.trans' hf)
  clear ha hf HN
  have hw32 := HW.out
  have d0 : w2.cell? ⟨X, 0, none⟩ = some (.string ⟨#[]⟩) := cell_at HZ.out
  have d1 : w2.cell? ⟨X, 1, none⟩ = some (.int .u32 0) := cell_at HZ.out
  have f0 : w2.frozen? ⟨X, 0, none⟩ = false := free_at HZ.out
  have f1 : w2.frozen? ⟨X, 1, none⟩ = false := free_at HZ.out
  obtain ⟨z1, z2, z3⟩ := stores_spec [(0, .string s), (1, .int .u32 m)] HZ.out
  have HZ := Lib.hid z1
  have HP := Lib.hid (show PdAt b x2 (stores w2 X [(0, .string s), (1, .int .u32 m)]) from (z2 b (fun e => hbX.out e.symm)).trans HP.out)
  have HF := Lib.hid (((HF.out.mono (F' := [b, X]) (fun k hk => .inl (by simp at hk; simp [hk]))).trans' (stores_fr (b := X) (by simp) [(0, .string s), (1, .int .u32 m)] w2)).mono (F' := [b]) (fun k hk => by
    simp at hk
    rcases hk with rfl | rfl
    · exact .inl (by simp)
    · exact .inr (by have := HXX.out; omega)))
  clear z1 z2 z3
  go_wp2_with fail
  refine bodyPost_ret (v := .agg #[.string s, .int .u32 m]) (results_cell1 (P := Try.prog) (p := 2) (ty := 34) Try.results31 _ _ X 34 #[.string s, .int .u32 m] (0, 0) _ rfl HZ.out Try.underlying34 rfl (by kernel_rfl)) rfl ?_
  exact ⟨rfl, HP.out, HF.out⟩
end Go.Proofs.Ytaooibocknemkaa
end

section
/-
  rec's reader of a payload: wish. Conditions: the reader and the record stand in blocks; the reader's text is no longer than a text may be.
-/
namespace Go.Proofs.Ytaooibocknemkaa
open Go.RowKit Go.BigFrame
set_option linter.unusedVariables false
set_option linter.unusedSimpArgs false
theorem numR_le (k : Nat) (x : RdS) : (numR k x).1.t.length ≤ x.t.length := takeR_le k x
set_option maxRecDepth 100000 in
set_option maxHeartbeats 8000000 in
theorem rwish_any (b R : Nat) (x : RdS) (r : PRec) (va vb : Value) (w : World) (h : PdAt b x w) (hr : w.heap[R]? = some (.cells #[.int .i64 r.kind, .int .i64 r.num, .int .u32 r.tx.ver, va, vb, .int .u32 r.tx.lock, .int .i64 r.index, .string r.id, .int .u32 r.idx, .int .i64 r.val, .int .i64 r.br, .int .u16 r.tag, .int .u16 r.delay, .int .u32 r.height, .int .i64 r.dead, .int .i64 r.budget, .int .i64 r.start, .int .i64 r.fee] 38 (0, 0))) (hne : R ≠ b) (hl : x.t.length ≤ 9223372036854775000) :
    Calls Try.prog 30 #[.pointer (some ⟨b, 0, none⟩), .pointer (some ⟨R, 0, none⟩)] w (fun e w' => e = .returned (.tuple #[]) ∧ PdAt b (wishP r x).1 w' ∧ w'.heap[R]? = some (.cells #[.int .i64 (wishP r x).2.kind, .int .i64 (wishP r x).2.num, .int .u32 (wishP r x).2.tx.ver, va, vb, .int .u32 (wishP r x).2.tx.lock, .int .i64 (wishP r x).2.index, .string (wishP r x).2.id, .int .u32 (wishP r x).2.idx, .int .i64 (wishP r x).2.val, .int .i64 (wishP r x).2.br, .int .u16 (wishP r x).2.tag, .int .u16 (wishP r x).2.delay, .int .u32 (wishP r x).2.height, .int .i64 (wishP r x).2.dead, .int .i64 (wishP r x).2.budget, .int .i64 (wishP r x).2.start, .int .i64 (wishP r x).2.fee] 38 (0, 0)) ∧ Fr [b, R] w w') := by
  obtain ⟨x1, hx1⟩ : ∃ y, y = (numI 1 x).1 := ⟨_, rfl⟩
  obtain ⟨n1, hn1⟩ : ∃ y, y = (numI 1 x).2 := ⟨_, rfl⟩
  have hl1 : x1.t.length ≤ 9223372036854775000 := by rw [hx1]; exact Nat.le_trans (takeR_le 1 x) hl
  have HN1 := Lib.hid (show ∀ y : World, PdAt b x y → Calls Try.prog 28 #[.pointer (some ⟨b, 0, none⟩), .int .i64 1] y (PdIs b x1 (.int .i64 n1) y) from fun y hy => by
    have h2 := rnum_any b x 1 y hy (by unfold okSize; decide) hl
    rw [hx1, hn1]
    exact h2)
  obtain ⟨x2, hx2⟩ : ∃ y, y = (numR 2 x1).1 := ⟨_, rfl⟩
  obtain ⟨n2, hn2⟩ : ∃ y, y = (numR 2 x1).2 := ⟨_, rfl⟩
  have hl2 : x2.t.length ≤ 9223372036854775000 := by rw [hx2]; exact Nat.le_trans (takeR_le 2 x1) hl1
  have hb2 : n2 < 256 ^ 2 := by rw [hn2]; exact numR_lt 2 x1
  have HN2 := Lib.hid (show ∀ y : World, PdAt b x1 y → Calls Try.prog 28 #[.pointer (some ⟨b, 0, none⟩), .int .i64 2] y (PdIs b x2 (.int .i64 (n2 : Int)) y) from fun y hy => by
    have h2 := rnum_any b x1 2 y hy (by unfold okSize; decide) hl1
    rw [numI_small (by decide)] at h2
    rw [hx2, hn2]
    exact h2)
  obtain ⟨x3, hx3⟩ : ∃ y, y = (numR 2 x2).1 := ⟨_, rfl⟩
  obtain ⟨n3, hn3⟩ : ∃ y, y = (numR 2 x2).2 := ⟨_, rfl⟩
  have hl3 : x3.t.length ≤ 9223372036854775000 := by rw [hx3]; exact Nat.le_trans (takeR_le 2 x2) hl2
  have hb3 : n3 < 256 ^ 2 := by rw [hn3]; exact numR_lt 2 x2
  have HN3 := Lib.hid (show ∀ y : World, PdAt b x2 y → Calls Try.prog 28 #[.pointer (some ⟨b, 0, none⟩), .int .i64 2] y (PdIs b x3 (.int .i64 (n3 : Int)) y) from fun y hy => by
    have h2 := rnum_any b x2 2 y hy (by unfold okSize; decide) hl2
    rw [numI_small (by decide)] at h2
    rw [hx3, hn3]
    exact h2)
  obtain ⟨x4, hx4⟩ : ∃ y, y = (numR 4 x3).1 := ⟨_, rfl⟩
  obtain ⟨n4, hn4⟩ : ∃ y, y = (numR 4 x3).2 := ⟨_, rfl⟩
  have hl4 : x4.t.length ≤ 9223372036854775000 := by rw [hx4]; exact Nat.le_trans (takeR_le 4 x3) hl3
  have hb4 : n4 < 256 ^ 4 := by rw [hn4]; exact numR_lt 4 x3
  have HN4 := Lib.hid (show ∀ y : World, PdAt b x3 y → Calls Try.prog 28 #[.pointer (some ⟨b, 0, none⟩), .int .i64 4] y (PdIs b x4 (.int .i64 (n4 : Int)) y) from fun y hy => by
    have h2 := rnum_any b x3 4 y hy (by unfold okSize; decide) hl3
    rw [numI_small (by decide)] at h2
    rw [hx4, hn4]
    exact h2)
  obtain ⟨x5, hx5⟩ : ∃ y, y = (numI 4 x4).1 := ⟨_, rfl⟩
  obtain ⟨n5, hn5⟩ : ∃ y, y = (numI 4 x4).2 := ⟨_, rfl⟩
  have hl5 : x5.t.length ≤ 9223372036854775000 := by rw [hx5]; exact Nat.le_trans (takeR_le 4 x4) hl4
  have HN5 := Lib.hid (show ∀ y : World, PdAt b x4 y → Calls Try.prog 28 #[.pointer (some ⟨b, 0, none⟩), .int .i64 4] y (PdIs b x5 (.int .i64 n5) y) from fun y hy => by
    have h2 := rnum_any b x4 4 y hy (by unfold okSize; decide) hl4
    rw [hx5, hn5]
    exact h2)
  obtain ⟨x6, hx6⟩ : ∃ y, y = (numI 8 x5).1 := ⟨_, rfl⟩
  obtain ⟨n6, hn6⟩ : ∃ y, y = (numI 8 x5).2 := ⟨_, rfl⟩
  have hl6 : x6.t.length ≤ 9223372036854775000 := by rw [hx6]; exact Nat.le_trans (takeR_le 8 x5) hl5
  have HN6 := Lib.hid (show ∀ y : World, PdAt b x5 y → Calls Try.prog 28 #[.pointer (some ⟨b, 0, none⟩), .int .i64 8] y (PdIs b x6 (.int .i64 n6) y) from fun y hy => by
    have h2 := rnum_any b x5 8 y hy (by unfold okSize; decide) hl5
    rw [hx6, hn6]
    exact h2)
  obtain ⟨x7, hx7⟩ : ∃ y, y = (numI 4 x6).1 := ⟨_, rfl⟩
  obtain ⟨n7, hn7⟩ : ∃ y, y = (numI 4 x6).2 := ⟨_, rfl⟩
  have hl7 : x7.t.length ≤ 9223372036854775000 := by rw [hx7]; exact Nat.le_trans (takeR_le 4 x6) hl6
  have HN7 := Lib.hid (show ∀ y : World, PdAt b x6 y → Calls Try.prog 28 #[.pointer (some ⟨b, 0, none⟩), .int .i64 4] y (PdIs b x7 (.int .i64 n7) y) from fun y hy => by
    have h2 := rnum_any b x6 4 y hy (by unfold okSize; decide) hl6
    rw [hx7, hn7]
    exact h2)
  have hW : wishP r x = (x7, { r with br := n1, tag := n2, delay := n3, height := n4, dead := n5, budget := n6, start := n7 }) := by
    unfold wishP
    rw [← hx1, ← hn1]
    rw [← hx2, ← hn2]
    rw [← hx3, ← hn3]
    rw [← hx4, ← hn4]
    rw [← hx5, ← hn5]
    rw [← hx6, ← hn6]
    rw [← hx7, ← hn7]
  rw [hW]
  dsimp only
  have HW2 := Lib.hid (wrap_u16n hb2)
  have HW3 := Lib.hid (wrap_u16n hb3)
  have HW4 := Lib.hid (wrap_u32n hb4)
  clear hW hb2 hb3 hb4 hl hx1 hn1 hl1 hx2 hn2 hl2 hx3 hn3 hl3 hx4 hn4 hl4 hx5 hn5 hl5 hx6 hn6 hl6 hx7 hn7 hl7
  have HP := Lib.hid h
  have HR := Lib.hid hr
  have HNE := Lib.hid hne
  have HF := Lib.hid (Fr.refl [b, R] w)
  clear h hr hne
  go_enter Try.func30, Try.ntmps30
  go_wp2_with fail
  refine (HN1.out w HP.out).mono ?_
  rintro e w1 ⟨rfl, ha, hf⟩
  have HP := Lib.hid ha
  have HR := Lib.hid ((hf.block R (Array.getElem?_eq_some_iff.1 HR.out).1 (by simpa using HNE.out)).trans HR.out)
  have HF := Lib.hid (HF.out.trans' (hf.mono (F' := [b, R]) (fun k hk => .inl (by simp at hk; simp [hk]))))
  clear ha hf HN1
  have d10 : w1.cell? ⟨R, 10, none⟩ = some (.int .i64 r.br) := cell_at HR.out
  have f10 : w1.frozen? ⟨R, 10, none⟩ = false := free_at HR.out
  obtain ⟨z1, z2, -⟩ := stores_spec [(10, .int .i64 n1)] HR.out
  have HP := Lib.hid (show PdAt b _ (stores w1 R [(10, .int .i64 n1)]) from (z2 b (fun e => HNE.out e.symm)).trans HP.out)
  have HR := Lib.hid (show (stores w1 R [(10, .int .i64 n1)]).heap[R]? = some (.cells #[.int .i64 r.kind, .int .i64 r.num, .int .u32 r.tx.ver, va, vb, .int .u32 r.tx.lock, .int .i64 r.index, .string r.id, .int .u32 r.idx, .int .i64 r.val, .int .i64 n1, .int .u16 r.tag, .int .u16 r.delay, .int .u32 r.height, .int .i64 r.dead, .int .i64 r.budget, .int .i64 r.start, .int .i64 r.fee] 38 (0, 0)) from z1)
  have HF := Lib.hid (HF.out.trans' (stores_fr (b := R) (by simp) [(10, .int .i64 n1)] w1))
  clear z1 z2
  go_wp2_with fail
  change Calls _ _ _ (stores w1 R [(10, .int .i64 n1)]) _
  generalize stores w1 R [(10, .int .i64 n1)] = w2 at *
  clear d10 f10
  refine (HN2.out w2 HP.out).mono ?_
  rintro e w3 ⟨rfl, ha, hf⟩
  have HP := Lib.hid ha
  have HR := Lib.hid ((hf.block R (Array.getElem?_eq_some_iff.1 HR.out).1 (by simpa using HNE.out)).trans HR.out)
  have HF := Lib.hid (HF.out.trans' (hf.mono (F' := [b, R]) (fun k hk => .inl (by simp at hk; simp [hk]))))
  clear ha hf HN2
  go_wp2_with fail
  refine (HN3.out w3 HP.out).mono ?_
  rintro e w4 ⟨rfl, ha, hf⟩
  have HP := Lib.hid ha
  have HR := Lib.hid ((hf.block R (Array.getElem?_eq_some_iff.1 HR.out).1 (by simpa using HNE.out)).trans HR.out)
  have HF := Lib.hid (HF.out.trans' (hf.mono (F' := [b, R]) (fun k hk => .inl (by simp at hk; simp [hk]))))
  clear ha hf HN3
  go_wp2_with fail
  refine (HN4.out w4 HP.out).mono ?_
  rintro e w5 ⟨rfl, ha, hf⟩
  have HP := Lib.hid ha
  have HR := Lib.hid ((hf.block R (Array.getElem?_eq_some_iff.1 HR.out).1 (by simpa using HNE.out)).trans HR.out)
  have HF := Lib.hid (HF.out.trans' (hf.mono (F' := [b, R]) (fun k hk => .inl (by simp at hk; simp [hk]))))
  clear ha hf HN4
  have hw2 := HW2.out
  have hw3 := HW3.out
  have hw4 := HW4.out
  have d11 : w5.cell? ⟨R, 11, none⟩ = some (.int .u16 r.tag) := cell_at HR.out
  have f11 : w5.frozen? ⟨R, 11, none⟩ = false := free_at HR.out
  have d12 : w5.cell? ⟨R, 12, none⟩ = some (.int .u16 r.delay) := cell_at HR.out
  have f12 : w5.frozen? ⟨R, 12, none⟩ = false := free_at HR.out
  have d13 : w5.cell? ⟨R, 13, none⟩ = some (.int .u32 r.height) := cell_at HR.out
  have f13 : w5.frozen? ⟨R, 13, none⟩ = false := free_at HR.out
  obtain ⟨z1, z2, -⟩ := stores_spec [(11, .int .u16 n2), (12, .int .u16 n3), (13, .int .u32 n4)] HR.out
  have HP := Lib.hid (show PdAt b _ (stores w5 R [(11, .int .u16 n2), (12, .int .u16 n3), (13, .int .u32 n4)]) from (z2 b (fun e => HNE.out e.symm)).trans HP.out)
  have HR := Lib.hid (show (stores w5 R [(11, .int .u16 n2), (12, .int .u16 n3), (13, .int .u32 n4)]).heap[R]? = some (.cells #[.int .i64 r.kind, .int .i64 r.num, .int .u32 r.tx.ver, va, vb, .int .u32 r.tx.lock, .int .i64 r.index, .string r.id, .int .u32 r.idx, .int .i64 r.val, .int .i64 n1, .int .u16 n2, .int .u16 n3, .int .u32 n4, .int .i64 r.dead, .int .i64 r.budget, .int .i64 r.start, .int .i64 r.fee] 38 (0, 0)) from z1)
  have HF := Lib.hid (HF.out.trans' (stores_fr (b := R) (by simp) [(11, .int .u16 n2), (12, .int .u16 n3), (13, .int .u32 n4)] w5))
  clear z1 z2
  go_wp2_with fail
  change Calls _ _ _ (stores w5 R [(11, .int .u16 n2), (12, .int .u16 n3), (13, .int .u32 n4)]) _
  generalize stores w5 R [(11, .int .u16 n2), (12, .int .u16 n3), (13, .int .u32 n4)] = w6 at *
  clear d11 f11 d12 f12 d13 f13 hw2 hw3 hw4 HW2 HW3 HW4
  refine (HN5.out w6 HP.out).mono ?_
  rintro e w7 ⟨rfl, ha, hf⟩
  have HP := Lib.hid ha
  have HR := Lib.hid ((hf.block R (Array.getElem?_eq_some_iff.1 HR.out).1 (by simpa using HNE.out)).trans HR.out)
  have HF := Lib.hid (HF.out.trans' (hf.mono (F' := [b, R]) (fun k hk => .inl (by simp at hk; simp [hk]))))
  clear ha hf HN5
  go_wp2_with fail
  refine (HN6.out w7 HP.out).mono ?_
  rintro e w8 ⟨rfl, ha, hf⟩
  have HP := Lib.hid ha
  have HR := Lib.hid ((hf.block R (Array.getElem?_eq_some_iff.1 HR.out).1 (by simpa using HNE.out)).trans HR.out)
  have HF := Lib.hid (HF.out.trans' (hf.mono (F' := [b, R]) (fun k hk => .inl (by simp at hk; simp [hk]))))
  clear ha hf HN6
  go_wp2_with fail
  refine (HN7.out w8 HP.out).mono ?_
  rintro e w9 ⟨rfl, ha, hf⟩
  have HP := Lib.hid ha
  have HR := Lib.hid ((hf.block R (Array.getElem?_eq_some_iff.1 HR.out).1 (by simpa using HNE.out)).trans HR.out)
  have HF := Lib.hid (HF.out.trans' (hf.mono (F' := [b, R]) (fun k hk => .inl (by simp at hk; simp [hk]))))
  clear ha hf HN7
  have d14 : w9.cell? ⟨R, 14, none⟩ = some (.int .i64 r.dead) := cell_at HR.out
  have f14 : w9.frozen? ⟨R, 14, none⟩ = false := free_at HR.out
  have d15 : w9.cell? ⟨R, 15, none⟩ = some (.int .i64 r.budget) := cell_at HR.out
  have f15 : w9.frozen? ⟨R, 15, none⟩ = false := free_at HR.out
  have d16 : w9.cell? ⟨R, 16, none⟩ = some (.int .i64 r.start) := cell_at HR.out
  have f16 : w9.frozen? ⟨R, 16, none⟩ = false := free_at HR.out
  obtain ⟨z1, z2, -⟩ := stores_spec [(14, .int .i64 n5), (15, .int .i64 n6), (16, .int .i64 n7)] HR.out
  have HP := Lib.hid (show PdAt b _ (stores w9 R [(14, .int .i64 n5), (15, .int .i64 n6), (16, .int .i64 n7)]) from (z2 b (fun e => HNE.out e.symm)).trans HP.out)
  have HR := Lib.hid (show (stores w9 R [(14, .int .i64 n5), (15, .int .i64 n6), (16, .int .i64 n7)]).heap[R]? = some (.cells #[.int .i64 r.kind, .int .i64 r.num, .int .u32 r.tx.ver, va, vb, .int .u32 r.tx.lock, .int .i64 r.index, .string r.id, .int .u32 r.idx, .int .i64 r.val, .int .i64 n1, .int .u16 n2, .int .u16 n3, .int .u32 n4, .int .i64 n5, .int .i64 n6, .int .i64 n7, .int .i64 r.fee] 38 (0, 0)) from z1)
  have HF := Lib.hid (HF.out.trans' (stores_fr (b := R) (by simp) [(14, .int .i64 n5), (15, .int .i64 n6), (16, .int .i64 n7)] w9))
  clear z1 z2
  go_wp2_with fail
  refine bodyPost_end (v := .tuple #[]) (by kernel_rfl) rfl ?_
  exact ⟨rfl, HP.out, HR.out, HF.out⟩
end Go.Proofs.Ytaooibocknemkaa
end

section
/-
  A transaction of the call's own whose witnesses are being set anew; all other blocks stay. Conditions: those of each theorem.
-/
namespace Go.Proofs.Ytaooibocknemkaa
open Go.RowKit
set_option linter.unusedVariables false
set_option linter.unusedSimpArgs false

theorem InsOwn.set2 {base : Nat} {w w' : World} {b n c : Nat} {ps : List (PIn × Value)} (h : InsOwn base w (.slice (some ⟨b, 0, none⟩) n c) ps) {i : Nat} {p p' : PIn × Value} (hi : ps[i]? = some p) (j : Nat) (u : Value) (hj : j < 4) (hs : (inRow p).set j u = inRow p')
    (hk : ∀ k, k < w.heap.size → p.2.ownBlock ≠ some k → w'.heap[k]? = w.heap[k]?)
    (hw : w'.ownsRow base 9 1 p'.2 p'.1.wit.length (strCells p'.1.wit)) (hok : OkIn p'.1) (hb : p'.2.ownBlock = p.2.ownBlock ∨ p'.2.ownBlock = none ∨ ∃ B, p'.2.ownBlock = some B ∧ w.heap.size ≤ B) :
    InsOwn base (w'.setCell ⟨b, i * 4 + j, none⟩ u) (.slice (some ⟨b, 0, none⟩) n c) (ps.set i p') := by
  obtain ⟨a', c', e, -, -⟩ := ownsRow_shape h.row
  obtain ⟨-, rfl, rfl⟩ : some (⟨b, 0, none⟩ : Addr) = a' ∧ n = ps.length ∧ c = c' := by simpa using e
  have hil : i < ps.length := (List.getElem?_eq_some_iff.1 hi).1
  have split : ∀ (k : Nat) (q : PIn × Value), (ps.set i p')[k]? = some q → (k ≠ i ∧ ps[k]? = some q) ∨ (k = i ∧ q = p') := by
    intro k q hq
    by_cases hk : k = i
    · subst hk; rw [List.getElem?_set_self hil] at hq; exact .inr ⟨rfl, by simpa using hq.symm⟩
    · rw [List.getElem?_set_ne (Ne.symm hk)] at hq; exact .inl ⟨hk, hq⟩
  have hlt : b < w.heap.size := (h.lt (b := b) (.inl rfl)).2
  have hbn : ∀ B, p'.2.ownBlock = some B → B ≠ b ∧ ∀ k q, k ≠ i → ps[k]? = some q → q.2.ownBlock ≠ some B := by
    intro B hB
    rcases hb with hb | hb | ⟨B', hB', hn⟩
    · rw [hb] at hB
      exact ⟨fun e => h.out i p B hi hB (by rw [e]; rfl), fun k q hk hq => fun e => h.apart i k p q B hi hq (Ne.symm hk) hB e⟩
    · rw [hb] at hB; cases hB
    · obtain rfl : B' = B := by rw [hB'] at hB; exact Option.some.inj hB
      exact ⟨fun e => by omega, fun k q hk hq e => by have := (h.lt (b := B') (.inr ⟨k, q, hq, e⟩)).2; omega⟩
  have hpb : p.2.ownBlock ≠ some b := fun e => h.out i p b hi e rfl
  refine ⟨?_, ?_, ?_, ?_, ?_⟩
  · rw [List.length_set]
    have hx : insCells (ps.set i p') = (insCells ps).set (i * 4 + j) u := (flat_set inRow 4 inRow_len ps i p p' hi j u hj hs).symm
    rw [hx]
    exact ownsRow_set (ownsRow_of_block h.row fun k e => by
      have : b = k := by simpa [Value.ownBlock] using e
      subst this
      exact hk b hlt hpb) (by rw [insCells_len]; omega) u
  · intro k q hq
    rcases split k q hq with ⟨hki, hq⟩ | ⟨rfl, rfl⟩
    · exact ownsRow_other (ownsRow_of_block (h.wit k q hq) fun k' e => hk k' (h.lt (.inr ⟨k, q, hq, e⟩)).2 (fun e' => h.apart i k p q k' hi hq (Ne.symm hki) e' e)) _ _ (fun e => h.out k q b hq e rfl)
    · exact ownsRow_other hw _ _ (fun e => (hbn b e).1 rfl)
  · intro k q hq
    rcases split k q hq with ⟨hk, hq⟩ | ⟨rfl, rfl⟩
    · exact h.ok k q hq
    · exact hok
  · intro k q B hq hB
    rcases split k q hq with ⟨hk, hq⟩ | ⟨rfl, rfl⟩
    · exact h.out k q B hq hB
    · intro e
      exact (hbn B hB).1 (by simpa [Value.ownBlock] using e.symm)
  · intro k l q r B hq hr hkl hB
    rcases split k q hq with ⟨hk, hq'⟩ | ⟨hk, hq'⟩ <;> rcases split l r hr with ⟨hl, hr'⟩ | ⟨hl, hr'⟩
    · exact h.apart k l q r B hq' hr' hkl hB
    · subst hr'
      exact fun e => (hbn B e).2 k q hk hq' hB
    · subst hq'
      exact (hbn B hB).2 l r hl hr'
    · omega

def setIns (t : PTx) (l : List PIn) : PTx := ⟨t.ver, l, t.outs, t.lock⟩
/-- The transaction's blocks lie from B to hi or behind wc; what isn't of them is as at wc. -/
structure VS (B hi : Nat) (va vo : Value) (t : PTx) (wc : World) (l : List PIn) (wr : World) : Prop where
  bel : Below B wc wr
  size : wc.heap.size ≤ wr.heap.size
  hic : hi ≤ wc.heap.size
  keep : ∀ b, b < wc.heap.size → ¬ (B ≤ b ∧ b < hi) → wr.heap[b]? = wc.heap[b]?
  own : ∃ ps, l = ps.map (·.1) ∧ InsOwn B wr va ps ∧ (∀ b, vo.ownBlock = some b → ¬ InsHas va ps b) ∧ ∀ b, InsHas va ps b → b < hi ∨ wc.heap.size ≤ b
  outs : OutsOwn B wr vo t.outs
  olt : ∀ b, vo.ownBlock = some b → b < hi
  nums : t.ver < 4294967296 ∧ t.lock < 4294967296
section
variable {B hi : Nat} {va vo : Value} {t : PTx} {wc wr w' : World} {l : List PIn}
theorem VS.tx (h : VS B hi va vo t wc l wr) : TxAt wr (.agg #[.int .u32 t.ver, va, vo, .int .u32 t.lock]) (setIns t l) := by
  obtain ⟨ps, rfl, h1, -, -⟩ := h.own
  exact ⟨va, vo, rfl, h1.sl, h.outs.sl, h.nums⟩
theorem VS.cell (h : VS B hi va vo t wc l wr) {X j : Nat} {u : Value} (hX : ¬ (B ≤ X ∧ X < hi)) (hc : wc.cell? ⟨X, j, none⟩ = some u) : wr.cell? ⟨X, j, none⟩ = some u := by
  rw [World.cell?_of_block (h.keep X (World.block_lt_of_cell? wc ⟨X, j, none⟩ hc) hX)]
  exact hc
/-- Later, of a transaction whose blocks lay below hi. -/
theorem VS.later {w1 : World} (h : TxOwn B w1 (.agg #[.int .u32 t.ver, va, vo, .int .u32 t.lock]) t) (hk : ∀ b, B ≤ b → b < w1.heap.size → wr.heap[b]? = w1.heap[b]?) (hs : w1.heap.size ≤ wr.heap.size) : VS B w1.heap.size va vo t wr t.ins wr := by
  obtain ⟨⟨vi, vo', ps, e, hp, h1, h2, h3⟩, h4, h5⟩ := h
  obtain ⟨rfl, rfl⟩ : va = vi ∧ vo = vo' := by simpa using e
  exact ⟨Below.refl _ _, Nat.le_refl _, hs, fun _ _ _ => rfl, ⟨ps, hp, h1.kept fun b hb => hk b (h1.lt hb).1 (h1.lt hb).2, h3, fun b hb => .inl (h1.lt hb).2⟩, h2.kept fun b hb => hk b (h2.row.lt b hb).1 (h2.row.lt b hb).2, fun b hb => (h2.row.lt b hb).2, h4, h5⟩
theorem VS.len (h : VS B hi va vo t wc l wr) : ∃ a c, va = .slice a l.length c ∧ l.length ≤ c ∧ c ≤ maxLen := by
  obtain ⟨ps, rfl, h1, -, -⟩ := h.own
  rw [List.length_map]
  exact ownsRow_shape h1.row
/-- What may be known of one In, and what becomes of it. -/
structure VSlot (B hi : Nat) (va vo : Value) (t : PTx) (wc : World) (l : List PIn) (i : Nat) (x : PIn) (b : Nat) (wv : Value) (wr : World) : Prop where
  vs : VS B hi va vo t wc l wr
  row : wr.ownsRow B 9 1 wv x.wit.length (strCells x.wit)
  ok : OkIn x
  cell : wr.cell? ⟨b, i * 4 + 3, none⟩ = some wv
  free : wr.frozen? ⟨b, i * 4 + 3, none⟩ = false
  is : b < wr.heap.size ∧ B ≤ b ∧ (b < hi ∨ wc.heap.size ≤ b) ∧ wv.ownBlock ≠ some b
  wlt : ∀ g, wv.ownBlock = some g → B ≤ g ∧ (g < hi ∨ wc.heap.size ≤ g)
  put : ∀ (l' : List ByteArray) (wv' : Value) (w' : World), (∀ k, k < wr.heap.size → wv.ownBlock ≠ some k → w'.heap[k]? = wr.heap[k]?) → Below B wr w' → wr.heap.size ≤ w'.heap.size →
    w'.ownsRow B 9 1 wv' l'.length (strCells l') → okStrs l' → (wv'.ownBlock = wv.ownBlock ∨ wv'.ownBlock = none ∨ ∃ G, wv'.ownBlock = some G ∧ wr.heap.size ≤ G) →
    VS B hi va vo t wc (l.set i { x with wit := l' }) (w'.setCell ⟨b, i * 4 + 3, none⟩ wv')
theorem VS.slot (h : VS B hi va vo t wc l wr) {i : Nat} {x : PIn} (hx : l[i]? = some x) : ∃ b wv c, va = .slice (some ⟨b, 0, none⟩) l.length c ∧ l.length ≤ c ∧ c ≤ maxLen ∧ VSlot B hi va vo t wc l i x b wv wr := by
  obtain ⟨ps, rfl, h1, h2, h3⟩ := h.own
  have hvs := h
  rw [List.getElem?_map] at hx
  obtain ⟨⟨y, wv⟩, hp, rfl⟩ := Option.map_eq_some_iff.1 hx
  obtain ⟨a, c, rfl, hc1, hc2⟩ := ownsRow_shape h1.row
  obtain ⟨b, rfl, hb1, hb2, e0, e1, e2, e3⟩ := h1.at hp
  have hw := h1.wit i _ hp
  refine ⟨b, wv, c, by rw [List.length_map], by rw [List.length_map]; exact hc1, hc2, ⟨hvs, hw, h1.ok i _ hp, e3, ownsRow_free h1.row _, ⟨hb2, hb1, h3 b (.inl rfl), fun e => h1.out i _ b hp e rfl⟩, fun g e => ⟨(hw.lt g e).1, h3 g (.inr ⟨i, _, hp, e⟩)⟩, ?_⟩⟩
  intro l' wv' w' hk hbl hsz hr hok hnb
  have hokx := h1.ok i _ hp
  have hset := h1.set2 (p' := ({ y with wit := l' }, wv')) hp 3 wv' (by omega) rfl hk hr ⟨hokx.id, hokx.idx, hokx.seq, hok⟩ hnb
  have hbb : ∀ g, wv.ownBlock = some g → g < wr.heap.size := fun g e => (hw.lt g e).2
  have hkeep : ∀ k, k < wr.heap.size → wv.ownBlock ≠ some k → k ≠ b → (w'.setCell ⟨b, i * 4 + 3, none⟩ wv').heap[k]? = wr.heap[k]? := fun k hkl hne hkb => by
    rw [Below.heap_setCell _ _ _ _ hkb]
    exact hk k hkl hne
  have hown : ∀ g, InsHas (.slice (some ⟨b, 0, none⟩) ps.length c) (ps.set i ({ y with wit := l' }, wv')) g → InsHas (.slice (some ⟨b, 0, none⟩) ps.length c) ps g ∨ wr.heap.size ≤ g := by
    rintro g (hg | ⟨k, q, hq, hg⟩)
    · exact .inl (.inl hg)
    · by_cases hki : i = k
      · subst hki
        rw [List.getElem?_set_self (List.getElem?_eq_some_iff.1 hp).1] at hq
        obtain rfl := Option.some.inj hq
        dsimp only at hg
        rcases hnb with e | e | ⟨G, e, hG⟩
        · exact .inl (.inr ⟨i, _, hp, e ▸ hg⟩)
        · rw [e] at hg; cases hg
        · rw [e] at hg; obtain rfl := Option.some.inj hg; exact .inr hG
      · rw [List.getElem?_set_ne hki] at hq
        exact .inl (.inr ⟨k, q, hq, hg⟩)
  refine ⟨(h.bel.trans hbl).setCell (p := ⟨b, i * 4 + 3, none⟩) hb1 _, by rw [World.size_setCell]; exact Nat.le_trans h.size hsz, h.hic, fun k hkl hn => ?_, ⟨_, ?_, hset, fun g hg hh => ?_, fun g hg => ?_⟩, h.outs.kept fun g hg => ?_, h.olt, h.nums⟩
  · rw [hkeep k (Nat.lt_of_lt_of_le hkl h.size) (fun e => ?_) (fun e => ?_)]
    · exact h.keep k hkl hn
    · have h4 := h3 k (.inr ⟨i, _, hp, e⟩)
      have h5 := (hw.lt k e).1
      omega
    · subst e
      have h4 := h3 k (.inl rfl)
      omega
  · rw [List.map_set]
  · rcases hown g hh with h4 | h4
    · exact h2 g hg h4
    · have := (h.outs.row.lt g hg).2; omega
  · rcases hown g hg with h4 | h4
    · exact h3 g h4
    · exact .inr (Nat.le_trans h.size h4)
  · refine hkeep g (h.outs.row.lt g hg).2 (fun e => h2 g hg (.inr ⟨i, _, hp, e⟩)) (fun e => h2 g hg (.inl (by rw [e]; rfl)))
theorem VS.tx_kept (h : VS B hi va vo t wc l wr) (hk : ∀ b, B ≤ b → b < wr.heap.size → w'.heap[b]? = wr.heap[b]?) : TxAt w' (.agg #[.int .u32 t.ver, va, vo, .int .u32 t.lock]) (setIns t l) := by
  obtain ⟨ps, rfl, h1, -, -⟩ := h.own
  exact ⟨va, vo, rfl, (h1.kept fun b hb => hk b (h1.lt hb).1 (h1.lt hb).2).sl, (h.outs.kept fun b hb => hk b (h.outs.row.lt b hb).1 (h.outs.row.lt b hb).2).sl, h.nums⟩
end
set_option maxRecDepth 100000 in
theorem open_strs {H : Type} {enc : TypeId × Value → H} {w : World} {v : Value} {d : DataW H} {ps : List MemPlace} (hv : Value.okWide Try.prog w .any 0 69 v) (h : DataW.Trod enc Try.prog w 0 (fun _ => true) true 69 v d ps) :
    ∃ l : List ByteArray, SlAt rpStr w v l := by
  obtain ⟨a, n, c, rfl⟩ := Go.WideShapes.okWide_slice Try.underlying69 hv
  obtain ⟨fuel, hf⟩ := h
  obtain ⟨l, u, e, hu⟩ := rp_of_slice (R := rpStr) Try.underlying69 (by kernel_rfl) (by decide) (fun _ _ _ => rp_of_str Try.underlying9) hf
  have e' : Value.slice a n c = u := by simpa [Value.cells] using e
  exact ⟨l, e' ▸ hu⟩
end Go.Proofs.Ytaooibocknemkaa
end

section
/-
  The program's reader: in, out, witness. Conditions: the place is in the text.
-/
namespace Go.Proofs.Ytaooibocknemkaa
open Go.RowKit Go.BigFrame
set_option linter.unusedVariables false
set_option linter.unusedSimpArgs false

theorem Psr.le {α : Type} {F : Prs α} {q : α → List UInt8} {ok : α → Prop} (h : Psr F q ok) {l : List UInt8} {z : Zst} (hz : z.at_ ≤ l.length) : (F l z).1.at_ ≤ l.length := by
  by_cases he : z.err = 0
  · exact (h.bound l z he hz).2
  · rw [h.stay l z he]; exact hz
theorem Psr.le' {α : Type} {F : Prs α} {q : α → List UInt8} {ok : α → Prop} (h : Psr F q ok) {s : ByteArray} {z : Zst} (hz : z.at_ ≤ s.size) : (F s.data.toList z).1.at_ ≤ s.size := by
  have := h.le (l := s.data.toList) (z := z) (by rw [data_len]; exact hz)
  rw [data_len] at this
  exact this
theorem Fr.heap {F : List Nat} {w w' : World} (h : Fr F w w') {X : Nat} {o : Obj} (hX : w.heap[X]? = some o) (hn : X ∉ F) : w'.heap[X]? = some o := (h.block X (Array.getElem?_eq_some_iff.1 hX).1 hn).trans hX
theorem four_cells' {w : World} {X : Nat} {u0 u1 u2 u3 : Value} {t : TypeId} (h : w.heap[X]? = some (.cells #[u0, u1, u2, u3] t (0, 0))) (v0 v1 v2 v3 : Value) :
    ((((w.setCell ⟨X, 0, none⟩ v0).setCell ⟨X, 1, none⟩ v1).setCell ⟨X, 2, none⟩ v2).setCell ⟨X, 3, none⟩ v3).heap[X]? = some (.cells #[v0, v1, v2, v3] t (0, 0)) ∧
    ∀ F, X ∈ F → Fr F w ((((w.setCell ⟨X, 0, none⟩ v0).setCell ⟨X, 1, none⟩ v1).setCell ⟨X, 2, none⟩ v2).setCell ⟨X, 3, none⟩ v3) := by
  have q1 := heap_setCell_at (j := 0) (u := v0) h
  have q2 := heap_setCell_at (j := 1) (u := v1) q1
  have q3 := heap_setCell_at (j := 2) (u := v2) q2
  have q4 := heap_setCell_at (j := 3) (u := v3) q3
  exact ⟨q4, fun F hF => (((Fr.setCell (F := F) w ⟨X, 0, none⟩ v0 hF).trans' (Fr.setCell _ ⟨X, 1, none⟩ v1 hF)).trans' (Fr.setCell _ ⟨X, 2, none⟩ v2 hF)).trans' (Fr.setCell _ ⟨X, 3, none⟩ v3 hF)⟩
theorem two_cells' {w : World} {X : Nat} {u0 u1 : Value} {t : TypeId} (h : w.heap[X]? = some (.cells #[u0, u1] t (0, 0))) (v0 v1 : Value) :
    ((w.setCell ⟨X, 0, none⟩ v0).setCell ⟨X, 1, none⟩ v1).heap[X]? = some (.cells #[v0, v1] t (0, 0)) ∧ ∀ F, X ∈ F → Fr F w ((w.setCell ⟨X, 0, none⟩ v0).setCell ⟨X, 1, none⟩ v1) := by
  have q1 := heap_setCell_at (j := 0) (u := v0) h
  have q2 := heap_setCell_at (j := 1) (u := v1) q1
  exact ⟨q2, fun F hF => (Fr.setCell (F := F) w ⟨X, 0, none⟩ v0 hF).trans' (Fr.setCell _ ⟨X, 1, none⟩ v1 hF)⟩
theorem fr_new {b X Y : Nat} {w w' : World} (h : Fr [b, X, Y] w w') (hX : w.heap.size ≤ X) (hY : w.heap.size ≤ Y) : Fr [b] w w' := h.mono fun k hk => by
  simp only [List.mem_cons, List.not_mem_nil, or_false] at hk
  rcases hk with rfl | rfl | rfl
  · exact .inl (by simp)
  · exact .inr hX
  · exact .inr hY
theorem fr_wide {b X Y : Nat} {w w' : World} (h : Fr [b] w w') : Fr [b, X, Y] w w' := h.mono fun k hk => by
  simp only [List.mem_cons, List.not_mem_nil, or_false] at hk
  subst hk
  exact .inl (by simp)
def inV (x : PIn) : Value := .agg #[.string x.id, .int .u32 x.idx, .int .u32 x.seq, .slice none 0 0]
def outRV (x : POut) : Value := .agg #[.int .i64 x.val, .string x.script]

set_option maxRecDepth 100000 in
set_option maxHeartbeats 2000000 in
theorem in_any (b : Nat) (s : ByteArray) (z : Zst) (w : World) (h : RdAt b s z w) (hs : s.size ≤ 9223372036854775000) (hz : z.at_ ≤ s.size) :
    Calls Try.prog 71 #[.pointer (some ⟨b, 0, none⟩)] w (RdIs b s (inZ s.data.toList z).1 (inV (inZ s.data.toList z).2) w) := by
  have HA := Lib.hid h
  have hbl := h.lt
  obtain ⟨z1, s1, hz1⟩ : ∃ z1 s1, textZ 32 s.data.toList z = (z1, s1) := ⟨_, _, rfl⟩
  obtain ⟨z2, n2, hz2⟩ : ∃ z2 n2, numZ 4 4294967295 3 s.data.toList z1 = (z2, n2) := ⟨_, _, rfl⟩
  obtain ⟨z3, n3, hz3⟩ : ∃ z3 n3, cntZ 0 0 4 s.data.toList z2 = (z3, n3) := ⟨_, _, rfl⟩
  obtain ⟨z4, n4, hz4⟩ : ∃ z4 n4, numZ 4 4294967295 3 s.data.toList z3 = (z4, n4) := ⟨_, _, rfl⟩
  have hr : inZ s.data.toList z = (z4, ⟨s1, n2, n4, []⟩) := by unfold inZ mapZ seqZ; rw [hz1]; dsimp only; rw [hz2]; dsimp only; rw [hz3]; dsimp only; rw [hz4]
  rw [hr]
  have k1 := (textZ_psr 32).le' (s := s) hz
  rw [hz1] at k1
  have k2 := (numZ_psr 4 4294967295 3 (by decide)).le' (s := s) k1
  rw [hz2] at k2
  have k3 := (cntZ_psr 0 0 4 (by decide) (by decide)).le' (s := s) k2
  rw [hz3] at k3
  dsimp only at k1 k2 k3
  have q1 : ∀ y, RdAt b s z y → _ := fun y hy => bytes_any b s z 32 y hy hs hz (by decide)
  have q2 : ∀ y, RdAt b s z1 y → _ := fun y hy => four_any b s z1 y hy hs k1
  have q3 : ∀ y, RdAt b s z2 y → _ := fun y hy => count_any b s z2 0 0 4 y hy hs k2 (by decide) (by decide) (by decide)
  have q4 : ∀ y, RdAt b s z3 y → _ := fun y hy => four_any b s z3 y hy hs k3
  simp only [hz1] at q1
  simp only [hz2] at q2
  simp only [hz3] at q3
  simp only [hz4] at q4
  have Q1 := Lib.hid q1
  have Q2 := Lib.hid q2
  have Q3 := Lib.hid q3
  have Q4 := Lib.hid q4
  clear h hr hz1 hz2 hz3 hz4 k1 k2 k3 q1 q2 q3 q4 hz hs
  go_enter Try.func71, Try.ntmps71
  go_upto_region 1 with fail
  have hz := heap_alloc_new w (.cells #[.string ⟨#[]⟩, .int .u32 0, .int .u32 0, .slice none 0 0] 71)
  have hal : Below w.heap.size w (w.alloc (.cells #[.string ⟨#[]⟩, .int .u32 0, .int .u32 0, .slice none 0 0] 71)) := (Below.refl _ _).alloc (Nat.le_refl _) _
  obtain ⟨X, hX⟩ : ∃ q, q = w.heap.size := ⟨_, rfl⟩
  rw [← hX] at hz ⊢
  generalize w.alloc (.cells #[.string ⟨#[]⟩, .int .u32 0, .int .u32 0, .slice none 0 0] 71) = w0 at *
  have HA := Lib.hid (HA.out.below hal)
  have HF := Lib.hid (Fr.bel (b := b) hal)
  have HX := Lib.hid hz
  have HN := Lib.hid (And.intro hX hbl)
  clear hz hal hX hbl
  go_wp2_with fail
  refine (Q1.out _ HA.out).mono ?_
  rintro e w1 ⟨rfl, ha, hf⟩
  have HA := Lib.hid ha
  have HX := Lib.hid (hf.heap HX.out (by have := HN.out; simp; omega))
  have HF := Lib.hid (HF.out.trans' hf)
  clear ha hf
  go_wp2_with fail
  refine (Q2.out _ HA.out).mono ?_
  rintro e w2 ⟨rfl, ha, hf⟩
  have HA := Lib.hid ha
  have HX := Lib.hid (hf.heap HX.out (by have := HN.out; simp; omega))
  have HF := Lib.hid (HF.out.trans' hf)
  clear ha hf
  go_upto_region 2 with fail
  have hz := heap_alloc_new w2 (.cells #[.string s1, .int .u32 n2, .int .u32 0, .slice none 0 0] 71)
  have hal : Below w2.heap.size w2 (w2.alloc (.cells #[.string s1, .int .u32 n2, .int .u32 0, .slice none 0 0] 71)) := (Below.refl _ _).alloc (Nat.le_refl _) _
  obtain ⟨Y, hY⟩ : ∃ q, q = w2.heap.size := ⟨_, rfl⟩
  rw [← hY] at hz ⊢
  generalize w2.alloc (.cells #[.string s1, .int .u32 n2, .int .u32 0, .slice none 0 0] 71) = w3 at *
  have HA := Lib.hid (HA.out.below hal)
  have HNY := Lib.hid (show X < Y ∧ w.heap.size ≤ Y from ⟨by rw [hY]; exact (Array.getElem?_eq_some_iff.1 HX.out).1, by rw [hY]; exact HF.out.size⟩)
  have HX := Lib.hid (show w3.heap[X]? = _ from (hal.block X (Array.getElem?_eq_some_iff.1 HX.out).1).trans HX.out)
  have HF := Lib.hid (HF.out.trans' (Fr.bel (b := b) hal))
  have HY := Lib.hid hz
  clear hz hal hY
  go_wp2_with fail
  refine (Q3.out _ HA.out).mono ?_
  rintro e w4 ⟨rfl, ha, hf⟩
  have HA := Lib.hid ha
  have HX := Lib.hid (hf.heap HX.out (by have := HN.out; simp; omega))
  have HY := Lib.hid (hf.heap HY.out (by have := HN.out; have := HNY.out; simp; omega))
  have HF := Lib.hid (HF.out.trans' hf)
  clear ha hf
  go_wp2_with fail
  refine (Q4.out _ HA.out).mono ?_
  rintro e w5 ⟨rfl, ha, hf⟩
  have HA := Lib.hid ha
  have HX := Lib.hid (hf.heap HX.out (by have := HN.out; simp; omega))
  have HY := Lib.hid (hf.heap HY.out (by have := HN.out; have := HNY.out; simp; omega))
  have HF := Lib.hid (HF.out.trans' hf)
  clear ha hf Q1 Q2 Q3 Q4
  have y2 : w5.cell? ⟨Y, 2, none⟩ = some (.int .u32 0) := cell_at HY.out
  have g2 : w5.frozen? ⟨Y, 2, none⟩ = false := free_at HY.out
  go_upto_region 4 with fail
  have HA := Lib.hid (show RdAt b s z4 (w5.setCell ⟨Y, 2, none⟩ (.int .u32 n4)) from (Below.heap_setCell _ _ _ _ (by have := HN.out; have := HNY.out; dsimp only; omega)).trans HA.out)
  have HX := Lib.hid ((Below.heap_setCell w5 ⟨Y, 2, none⟩ (.int .u32 n4) X (by have := HNY.out; dsimp only; omega)).trans HX.out)
  have HY := Lib.hid (heap_setCell_at (j := 2) (u := .int .u32 n4) HY.out)
  have HF := Lib.hid ((fr_wide (X := X) (Y := Y) HF.out).trans' (Fr.setCell w5 ⟨Y, 2, none⟩ (.int .u32 n4) (by simp)))
  clear y2 g2
  generalize w5.setCell ⟨Y, 2, none⟩ (.int .u32 n4) = w6 at *
  have y0 : w6.cell? ⟨Y, 0, none⟩ = some (.string s1) := cell_at HY.out
  have y1 : w6.cell? ⟨Y, 1, none⟩ = some (.int .u32 n2) := cell_at HY.out
  have y2 : w6.cell? ⟨Y, 2, none⟩ = some (.int .u32 n4) := cell_at HY.out
  have y3 : w6.cell? ⟨Y, 3, none⟩ = some (.slice none 0 0) := cell_at HY.out
  have x0 : w6.cell? ⟨X, 0, none⟩ = some (.string ⟨#[]⟩) := cell_at HX.out
  have x1 : w6.cell? ⟨X, 1, none⟩ = some (.int .u32 0) := cell_at HX.out
  have x2 : w6.cell? ⟨X, 2, none⟩ = some (.int .u32 0) := cell_at HX.out
  have x3 : w6.cell? ⟨X, 3, none⟩ = some (.slice none 0 0) := cell_at HX.out
  have f0 : w6.frozen? ⟨X, 0, none⟩ = false := free_at HX.out
  have f1 : w6.frozen? ⟨X, 1, none⟩ = false := free_at HX.out
  have f2 : w6.frozen? ⟨X, 2, none⟩ = false := free_at HX.out
  have f3 : w6.frozen? ⟨X, 3, none⟩ = false := free_at HX.out
  obtain ⟨c4, c5⟩ := four_cells' HX.out (.string s1) (.int .u32 n2) (.int .u32 n4) (.slice none 0 0)
  have HF2 := Lib.hid (HF.out.trans' (c5 [b, X, Y] (by simp)))
  have HA2 := Lib.hid (show RdAt b s z4 _ from ((c5 [X] (by simp)).block b HA.out.lt (by have := HN.out; simp; omega)).trans HA.out)
  have HC4 := Lib.hid c4
  clear c4 c5
  go_wp2_with fail
  have c4 := HC4.out
  have r0 := cell_at (j := 0) c4
  have r1 := cell_at (j := 1) c4
  have r2 := cell_at (j := 2) c4
  have r3 := cell_at (j := 3) c4
  refine bodyPost_ret (v := .agg #[.string s1, .int .u32 n2, .int .u32 n4, .slice none 0 0]) (by simp [results, Try.results71, go_sem, x0, x1, x2, x3]) rfl ⟨rfl, HA2.out, fr_new HF2.out (by have := HN.out; omega) (by have := HNY.out; omega)⟩
theorem cntZ_le (least most : Nat) (e : Int) (l : List UInt8) (z : Zst) : (cntZ least most e l z).2 ≤ most := by
  unfold cntZ
  split
  · exact Nat.zero_le _
  · split
    · exact Nat.zero_le _
    · split
      · exact Nat.zero_le _
      · dsimp only; omega
set_option maxRecDepth 100000 in
set_option maxHeartbeats 2000000 in
theorem out_any (b : Nat) (s : ByteArray) (z : Zst) (w : World) (h : RdAt b s z w) (hs : s.size ≤ 9223372036854775000) (hz : z.at_ ≤ s.size) :
    Calls Try.prog 72 #[.pointer (some ⟨b, 0, none⟩)] w (RdIs b s (outZ s.data.toList z).1 (outRV (outZ s.data.toList z).2) w) := by
  have HA := Lib.hid h
  have hbl := h.lt
  obtain ⟨z1, n1, hz1⟩ : ∃ z1 n1, numZ 8 2100000000000000 3 s.data.toList z = (z1, n1) := ⟨_, _, rfl⟩
  obtain ⟨z2, n2, hz2⟩ : ∃ z2 n2, cntZ 0 40 20 s.data.toList z1 = (z2, n2) := ⟨_, _, rfl⟩
  obtain ⟨z3, s3, hz3⟩ : ∃ z3 s3, textZ n2 s.data.toList z2 = (z3, s3) := ⟨_, _, rfl⟩
  have hr : outZ s.data.toList z = (z3, ⟨(n1 : Int), s3⟩) := by unfold outZ cntText mapZ seqZ; rw [hz1]; dsimp only; rw [hz2]; dsimp only; rw [hz3]
  rw [hr]
  have k1 := (numZ_psr 8 2100000000000000 3 (by decide)).le' (s := s) hz
  rw [hz1] at k1
  have k2 := (cntZ_psr 0 40 20 (by decide) (by decide)).le' (s := s) k1
  rw [hz2] at k2
  dsimp only at k1 k2
  have hn1 := numZ_le 8 2100000000000000 3 s.data.toList z
  have hn2 := cntZ_le 0 40 20 s.data.toList z1
  rw [hz1] at hn1
  rw [hz2] at hn2
  dsimp only at hn1 hn2
  have q1 : ∀ y, RdAt b s z y → _ := fun y hy => number_any b s z 8 2100000000000000 3 y hy (.inr (.inr (.inr rfl))) hs hz (by decide) (by decide)
  have q2 : ∀ y, RdAt b s z1 y → _ := fun y hy => count_any b s z1 0 40 20 y hy hs k1 (by decide) (by decide) (by decide)
  have q3 : ∀ y, RdAt b s z2 y → _ := fun y hy => bytes_any b s z2 n2 y hy hs k2 (by omega)
  simp only [hz1] at q1
  simp only [hz2] at q2
  simp only [hz3] at q3
  have Q1 := Lib.hid q1
  have Q2 := Lib.hid q2
  have Q3 := Lib.hid q3
  have hn1I : (n1 : Int) ≤ 2100000000000000 := by omega
  clear h hr hz1 hz2 hz3 k1 k2 q1 q2 q3 hz hs hn1 hn2
  go_enter Try.func72, Try.ntmps72
  go_upto_region 1 with fail
  have hz := heap_alloc_new w (.cells #[.int .i64 0, .string ⟨#[]⟩] 73)
  have hal : Below w.heap.size w (w.alloc (.cells #[.int .i64 0, .string ⟨#[]⟩] 73)) := (Below.refl _ _).alloc (Nat.le_refl _) _
  obtain ⟨X, hX⟩ : ∃ q, q = w.heap.size := ⟨_, rfl⟩
  rw [← hX] at hz ⊢
  generalize w.alloc (.cells #[.int .i64 0, .string ⟨#[]⟩] 73) = w0 at *
  have HA := Lib.hid (HA.out.below hal)
  have HF := Lib.hid (Fr.bel (b := b) hal)
  have HX := Lib.hid hz
  have HN := Lib.hid (And.intro hX hbl)
  clear hz hal hX hbl
  go_wp2_with fail
  refine (Q1.out _ HA.out).mono ?_
  rintro e w1 ⟨rfl, ha, hf⟩
  have HA := Lib.hid ha
  have HX := Lib.hid (hf.heap HX.out (by have := HN.out; simp; omega))
  have HF := Lib.hid (HF.out.trans' hf)
  clear ha hf
  go_wp2_with fail
  refine (Q2.out _ HA.out).mono ?_
  rintro e w2 ⟨rfl, ha, hf⟩
  have HA := Lib.hid ha
  have HX := Lib.hid (hf.heap HX.out (by have := HN.out; simp; omega))
  have HF := Lib.hid (HF.out.trans' hf)
  clear ha hf
  go_wp2_with fail
  refine (Q3.out _ HA.out).mono ?_
  rintro e w6 ⟨rfl, ha, hf⟩
  have HA := Lib.hid ha
  have HX := Lib.hid (hf.heap HX.out (by have := HN.out; simp; omega))
  have HF := Lib.hid (HF.out.trans' hf)
  clear ha hf Q1 Q2 Q3
  have x0 : w6.cell? ⟨X, 0, none⟩ = some (.int .i64 0) := cell_at HX.out
  have x1 : w6.cell? ⟨X, 1, none⟩ = some (.string ⟨#[]⟩) := cell_at HX.out
  have f0 : w6.frozen? ⟨X, 0, none⟩ = false := free_at HX.out
  have f1 : w6.frozen? ⟨X, 1, none⟩ = false := free_at HX.out
  obtain ⟨c4, c5⟩ := two_cells' HX.out (.int .i64 (n1 : Int)) (.string s3)
  have HF2 := Lib.hid ((fr_wide (X := X) (Y := X) HF.out).trans' (c5 [b, X, X] (by simp)))
  have HA2 := Lib.hid (show RdAt b s z3 _ from ((c5 [X] (by simp)).block b HA.out.lt (by have := HN.out; simp; omega)).trans HA.out)
  have HC4 := Lib.hid c4
  clear c4 c5
  go_wp2_with fail
  refine bodyPost_ret (v := .agg #[.int .i64 (n1 : Int), .string s3]) (by simp [results, Try.results72, go_sem, x0, x1]) rfl ⟨rfl, HA2.out, fr_new HF2.out (by have := HN.out; omega) (by have := HN.out; omega)⟩

/-- It returns texts in a row of its own, the reader stands so. -/
def WitIs (b : Nat) (s : ByteArray) (z : Zst) (xs : List ByteArray) (w : World) (e : Ending) (w' : World) : Prop := ∃ v, e = .returned v ∧ w'.ownsRow w.heap.size 9 1 v xs.length (strCells xs) ∧ RdAt b s z w' ∧ Fr [b] w w'
theorem repZ_len {α : Type} (F : Prs α) (l : List UInt8) (z : Zst) : ∀ n, (repZ F n l z).2.length = n
  | 0 => rfl
  | n + 1 => by show ((repZ F n l z).2 ++ [_]).length = n + 1; rw [List.length_append, repZ_len F l z n]; rfl
theorem ownsRow_fr {w w' : World} {base e size n b : Nat} {v : Value} {xs : List Value} (h : w.ownsRow base e size v n xs) (hf : Fr [b] w w') (hb : b < base) : w'.ownsRow base e size v n xs :=
  ownsRow_of_block h fun k hk => hf.block k (h.lt k hk).2 (by have := (h.lt k hk).1; simp; omega)
set_option maxRecDepth 100000 in
set_option maxHeartbeats 2000000 in
theorem witness_any (b : Nat) (s : ByteArray) (z : Zst) (w : World) (h : RdAt b s z w) (hs : s.size ≤ 9223372036854775000) (hz : z.at_ ≤ s.size) :
    Calls Try.prog 73 #[.pointer (some ⟨b, 0, none⟩)] w (WitIs b s (witZ s.data.toList z).1 (witZ s.data.toList z).2 w) := by
  have HA := Lib.hid h
  have hbl := h.lt
  obtain ⟨z1, n, hz1⟩ : ∃ z1 n1, cntZ 0 4 6 s.data.toList z = (z1, n1) := ⟨_, _, rfl⟩
  have hr : witZ s.data.toList z = repZ itemZ n s.data.toList z1 := by unfold witZ cntRep mapZ seqZ; rw [hz1]
  rw [hr]
  have k1 := (cntZ_psr 0 4 6 (by decide) (by decide)).le' (s := s) hz
  rw [hz1] at k1
  dsimp only at k1
  have hn := cntZ_le 0 4 6 s.data.toList z
  rw [hz1] at hn
  dsimp only at hn
  have q1 : ∀ y, RdAt b s z y → _ := fun y hy => count_any b s z 0 4 6 y hy hs hz (by decide) (by decide) (by decide)
  simp only [hz1] at q1
  have Q1 := Lib.hid q1
  have HK := Lib.hid k1
  have HS := Lib.hid hs
  have HBL := Lib.hid hbl
  clear h hr hz1 k1 q1 hz hs hbl
  go_enter Try.func73, Try.ntmps73
  go_wp2_with fail
  refine (Q1.out _ HA.out).mono ?_
  rintro e w1 ⟨rfl, ha, hf⟩
  have HA := Lib.hid ha
  have HF := Lib.hid hf
  clear ha hf Q1
  go_wp2_with fail
  go_loopg [3, 6] n (fun g v vi wr => ∃ k : Nat, g = n - k ∧ k ≤ n ∧ vi = .int .i64 k ∧ RdAt b s (repZ itemZ k s.data.toList z1).1 wr ∧ Fr [b] w wr ∧ wr.ownsRow w.heap.size 9 1 v k (strCells (repZ itemZ k s.data.toList z1).2))
  case atStart => exact ⟨0, rfl, by omega, rfl, HA.out, HF.out, World.ownsRow_nil _ _ _ _⟩
  case round =>
    clear HA HF
    rename World => wr
    obtain ⟨k, hgk, hk, rfl, ha, hf, hown⟩ := hrel
    have HGK := Lib.hid hgk
    have HF := Lib.hid hf
    obtain ⟨zk, xs, hzx⟩ : ∃ zk xs, repZ itemZ k s.data.toList z1 = (zk, xs) := ⟨_, _, rfl⟩
    have hxl := repZ_len itemZ s.data.toList z1 k
    have hzl := ((cntText_psr 80 20 (by decide) (by decide)).rep k).le' HK.out
    have hzl : (repZ itemZ k s.data.toList z1).1.at_ ≤ s.size := hzl
    rw [hzx] at ha hown hzl hxl
    dsimp only at ha hown hzl hxl
    obtain ⟨a, c, rfl, hc1, hc2⟩ := ownsRow_shape hown
    have HA := Lib.hid ha
    have HO := Lib.hid hown
    clear hgk hf ha hown
    by_cases hlt : k < n
    · obtain ⟨z5, n5, hz5⟩ : ∃ z5 n5, cntZ 0 80 20 s.data.toList zk = (z5, n5) := ⟨_, _, rfl⟩
      obtain ⟨z6, s6, hz6⟩ : ∃ z6 s6, textZ n5 s.data.toList z5 = (z6, s6) := ⟨_, _, rfl⟩
      have hst : repZ itemZ (k + 1) s.data.toList z1 = (z6, xs ++ [s6]) := by
        show ((itemZ s.data.toList (repZ itemZ k s.data.toList z1).1).1, _ ++ [(itemZ s.data.toList (repZ itemZ k s.data.toList z1).1).2]) = _
        rw [hzx]
        unfold itemZ cntText mapZ seqZ
        dsimp only
        rw [hz5]
        dsimp only
        rw [hz6]
      have k5 := (cntZ_psr 0 80 20 (by decide) (by decide)).le' (s := s) hzl
      rw [hz5] at k5
      dsimp only at k5
      have hn5 := cntZ_le 0 80 20 s.data.toList zk
      rw [hz5] at hn5
      dsimp only at hn5
      have q1 : ∀ y, RdAt b s zk y → _ := fun y hy => count_any b s zk 0 80 20 y hy HS.out hzl (by decide) (by decide) (by decide)
      have q2 : ∀ y, RdAt b s z5 y → _ := fun y hy => bytes_any b s z5 n5 y hy HS.out k5 (by omega)
      simp only [hz5] at q1
      simp only [hz6] at q2
      have Q1 := Lib.hid q1
      have Q2 := Lib.hid q2
      have HST := Lib.hid hst
      clear q1 q2 hst hz5 hz6 hn5 k5 hzl hzx hxl
      go_wp2_with fail
      refine (Q1.out _ HA.out).mono ?_
      rintro e w2 ⟨rfl, ha, hf⟩
      have HA := Lib.hid ha
      have HO := Lib.hid (ownsRow_fr HO.out hf HBL.out)
      have HF := Lib.hid (HF.out.trans' hf)
      clear ha hf
      go_wp2_with fail
      refine (Q2.out _ HA.out).mono ?_
      rintro e w3 ⟨rfl, ha, hf⟩
      have HA := Lib.hid ha
      have HO := Lib.hid (ownsRow_fr HO.out hf HBL.out)
      have HF := Lib.hid (HF.out.trans' hf)
      clear ha hf Q1 Q2
      obtain ⟨i0, hi, hz0, hz1, hz2⟩ := info_parts info_str
      obtain ⟨a2, c2, w4, hrun, hown2, hb2, hg2, hv2⟩ := append_one (P := Try.prog) Try.underlying69 hi hz0 hz1 hz2 rfl HO.out #[.string s6] rfl (by simp [Value.oneCell']) (by rw [maxLen_eq]; omega) (by omega) HF.out.size (ty := 69)
      have hbm := hb2.mono (show b + 1 ≤ w.heap.size from HBL.out)
      have HA4 := Lib.hid (show RdAt b s z6 w4 from (hbm.block b (Nat.lt_succ_self b)).trans HA.out)
      have HF4 := Lib.hid (show Fr [b] w w4 from ⟨hb2.os.trans HF.out.os, hb2.tape.trans HF.out.tape, hb2.output.trans HF.out.output, Nat.le_trans HF.out.size hb2.size, fun i hi hn => (hb2.block i hi).trans (HF.out.block i hi hn)⟩)
      have HO4 := Lib.hid (show w4.ownsRow w.heap.size 9 1 (.slice a2 (k + 1) c2) (k + 1) (strCells (xs ++ [s6])) by simpa [strCells] using hown2)
      have HR := Lib.hid hrun
      clear hrun hown2 hb2 hg2 hv2 hbm hi hz0 hz1 hz2 i0 HA HF HO
      go_wp2_with (at_builtin; refine wpList_append_run rfl (.tmp 8) (.tmp 13) 69 69 rfl rfl rfl HR.out ?_)
      go_roundg (n - (k + 1))
      case measure => have := HGK.out; omega
      case rel => exact ⟨k + 1, rfl, by omega, by go_num, by rw [HST.out]; exact HA4.out, HF4.out, by rw [HST.out]; exact HO4.out⟩
    · obtain rfl : k = n := by omega
      have HZX := Lib.hid hzx
      have HXL := Lib.hid hxl
      clear hzx hxl hzl
      go_wp2_with fail
      go_ret
      exact ⟨_, rfl, by rw [HZX.out]; dsimp only; rw [HXL.out]; exact HO.out, by rw [HZX.out]; exact HA.out, HF.out⟩
end Go.Proofs.Ytaooibocknemkaa
end

section
/-
  What holds while the program's reader reads a transaction. Conditions: none beyond each lemma's own.
-/
namespace Go.Proofs.Ytaooibocknemkaa
open Go.RowKit Go.BigFrame
set_option linter.unusedVariables false
set_option linter.unusedSimpArgs false

/-- The reader in block b, the result's box X, the transaction's box Y, its rows behind Y. -/
structure RD (w : World) (b X Y : Nat) (s : ByteArray) (ver : Nat) (z : Zst) (vi vo : Value) (xs : List PIn) (os : List POut) (wr : World) : Prop where
  rd : RdAt b s z wr
  fr : Fr [b] w wr
  x : wr.heap[X]? = some (.cells #[.int .u32 0, .slice none 0 0, .slice none 0 0, .int .u32 0] 29 (0, 0))
  y : wr.heap[Y]? = some (.cells #[.int .u32 ver, vi, vo, .int .u32 0] 29 (0, 0))
  ins : ∃ ps, xs = ps.map (·.1) ∧ InsOwn (Y + 1) wr vi ps ∧ ∀ k, vo.ownBlock = some k → ¬ InsHas vi ps k
  outs : OutsOwn (Y + 1) wr vo os
  num : b < w.heap.size ∧ w.heap.size ≤ X ∧ X < Y
section
variable {w wr w' : World} {b X Y ver : Nat} {s : ByteArray} {z z' : Zst} {vi vo : Value} {xs : List PIn} {os : List POut}
theorem RD.ylt (h : RD w b X Y s ver z vi vo xs os wr) : Y < wr.heap.size := (Array.getElem?_eq_some_iff.1 h.y).1
theorem RD.call (h : RD w b X Y s ver z vi vo xs os wr) (ha : RdAt b s z' w') (hf : Fr [b] wr w') : RD w b X Y s ver z' vi vo xs os w' := by
  have hn := h.num
  obtain ⟨ps, hp, h1, h2⟩ := h.ins
  exact ⟨ha, h.fr.trans' hf, hf.heap h.x (by simp; omega), hf.heap h.y (by simp; omega), ⟨ps, hp, h1.kept fun k hk => hf.block k (h1.lt hk).2 (by have := (h1.lt hk).1; simp; omega), h2⟩,
    h.outs.kept fun k hk => hf.block k (h.outs.row.lt k hk).2 (by have := (h.outs.row.lt k hk).1; simp; omega), hn⟩
theorem RD.below (h : RD w b X Y s ver z vi vo xs os wr) (hb : Below wr.heap.size wr w') : RD w b X Y s ver z vi vo xs os w' := h.call (h.rd.below hb) (Fr.bel hb)
theorem RD.tx (h : RD w b X Y s ver z vi vo xs os wr) (hv : ver < 4294967296) : TxAt wr (.agg #[.int .u32 ver, vi, vo, .int .u32 0]) ⟨ver, xs, os, 0⟩ := by
  obtain ⟨ps, rfl, h1, h2⟩ := h.ins
  exact ⟨vi, vo, rfl, h1.sl, h.outs.sl, hv, by show (0 : Nat) < _; omega⟩
theorem RD.own (h : RD w b X Y s ver z vi vo xs os wr) (hv : ver < 4294967296) (lock : Nat) (hl : lock < 4294967296) : TxOwn (Y + 1) wr (.agg #[.int .u32 ver, vi, vo, .int .u32 lock]) ⟨ver, xs, os, lock⟩ := by
  obtain ⟨ps, rfl, h1, h2⟩ := h.ins
  exact ⟨⟨vi, vo, ps, rfl, rfl, h1, h.outs, h2⟩, hv, hl⟩
theorem RD.ilen (h : RD w b X Y s ver z vi vo xs os wr) : ∃ a c, vi = .slice a xs.length c ∧ xs.length ≤ c ∧ c ≤ maxLen := by
  obtain ⟨ps, rfl, h1, -⟩ := h.ins
  rw [List.length_map]
  exact ownsRow_shape h1.row
theorem RD.olen (h : RD w b X Y s ver z vi vo xs os wr) : ∃ a c, vo = .slice a os.length c ∧ os.length ≤ c ∧ c ≤ maxLen := ownsRow_shape h.outs.row
/-- The transaction's box at another world in which its own block has been written alone. -/
theorem frY (hX : Fr [b] w wr) (hb : w.heap.size ≤ Y) (j : Nat) (u : Value) : Fr [b] w (wr.setCell ⟨Y, j, none⟩ u) := by
  refine (fr_wide (X := Y) (Y := Y) hX).trans' (Fr.setCell wr ⟨Y, j, none⟩ u (by simp)) |>.mono fun k hk => ?_
  simp only [List.mem_cons, List.not_mem_nil, or_false] at hk
  rcases hk with rfl | rfl | rfl
  · exact .inl (by simp)
  · exact .inr hb
  · exact .inr hb
/-- One In more. -/
theorem RD.addIn {a : Option Addr} {n c : Nat} (h : RD w b X Y s ver z (.slice a n c) vo xs os wr) (hn : n ≤ 1000) (x : PIn) (hw : x.wit = []) (hx : OkIn x) :
    ∃ a' c' w', (Builtin.append_ #[26, 26] 26 #[.slice a n c, .slice (some ⟨wr.heap.size, 0, none⟩) 1 1]).run Try.prog (wr.alloc (.cells #[.string x.id, .int .u32 x.idx, .int .u32 x.seq, .slice none 0 0] 71)) = .ok (.slice a' (n + 1) c') w' ∧
      w'.heap[Y]? = wr.heap[Y]? ∧ RD w b X Y s ver z (.slice a' (n + 1) c') vo (xs ++ [x]) os (w'.setCell ⟨Y, 1, none⟩ (.slice a' (n + 1) c')) := by
  obtain ⟨ps, rfl, h1, h2⟩ := h.ins
  have hyl := h.ylt
  have hnum := h.num
  have hl : ps.length = n := by
    obtain ⟨a9, c9, e9, -, -⟩ := ownsRow_shape h1.row
    have : n = ps.length := by simpa using (congrArg (fun v => match v with | .slice _ n _ => n | _ => 0) e9)
    exact this.symm
  subst hl
  obtain ⟨i0, hi, hz0, hz1, hz2⟩ := info_parts info_in
  obtain ⟨a3, c3, w3, hrun, hown3, hb3, hg3, hv3⟩ := append_one (P := Try.prog) Try.underlying26 hi hz0 hz1 hz2 rfl h1.row #[.string x.id, .int .u32 x.idx, .int .u32 x.seq, .slice none 0 0] rfl (by simp [Value.oneCell']) (by rw [maxLen_eq]; omega) (by omega) (by omega) (ty := 26)
  have hkeep : ∀ k, k < wr.heap.size → (Value.slice a ps.length c).ownBlock ≠ some k → w3.heap[k]? = wr.heap[k]? := fun k hk hne => by
    rw [hg3.block k (by simp; omega) (fun e => hne e.symm)]
    exact Below.heap_alloc _ _ k hk
  have hbw : ∀ k, k ≤ Y → w3.heap[k]? = wr.heap[k]? := fun k hk => hb3.block k (by omega)
  have hsz : wr.heap.size ≤ w3.heap.size := hb3.size
  have hsn : InsOwn (Y + 1) w3 (.slice a3 (ps.length + 1) c3) (ps ++ [(x, .slice none 0 0)]) := by
    refine h1.snoc hown3 ?_ hkeep ?_ hx (fun k e => by cases e)
    · rcases hv3 with e | e
      · exact .inl e
      · exact .inr ⟨_, e, by omega, by simp [Value.ownBlock]⟩
    · rw [hw]; exact World.ownsRow_nil _ _ _ _
  refine ⟨a3, c3, w3, hrun, hbw Y (Nat.le_refl _), ?_⟩
  have hset : ∀ k, k ≠ Y → (w3.setCell ⟨Y, 1, none⟩ (.slice a3 (ps.length + 1) c3)).heap[k]? = w3.heap[k]? := fun k hk => Below.heap_setCell _ _ _ _ hk
  have hout : OutsOwn (Y + 1) w3 vo os := h.outs.kept fun k hk => hkeep k (h.outs.row.lt k hk).2 fun e => h2 k hk (.inl e)
  refine ⟨(hset b (by omega)).trans ((hbw b (by omega)).trans h.rd), frY ?_ (by omega) _ _, (hset X (by omega)).trans ((hbw X (by omega)).trans h.x), heap_setCell_at ((hbw Y (Nat.le_refl _)).trans h.y), ⟨_, ?_, hsn.store _ _ (fun hh => by have := (hsn.lt hh).1; dsimp only at this; omega), fun k hk hh => ?_⟩, hout.kept fun k hk => hset k (by have := (hout.row.lt k hk).1; omega), hnum⟩
  · exact ⟨hb3.os.trans h.fr.os, hb3.tape.trans h.fr.tape, hb3.output.trans h.fr.output, Nat.le_trans h.fr.size hsz, fun k hk hn => (hbw k (by omega)).trans (h.fr.block k hk hn)⟩
  · simp
  · have hko := (h.outs.row.lt k hk).2
    rcases hh with hh | ⟨i, p, hp, hh⟩
    · rcases hv3 with e | e
      · exact h2 k hk (.inl (e ▸ hh))
      · rw [e] at hh; have := Option.some.inj hh; omega
    · rw [List.getElem?_append] at hp
      split at hp
      · exact h2 k hk (.inr ⟨i, p, hp, hh⟩)
      · have hp2 : p = (x, .slice none 0 0) := by
          have := List.mem_of_getElem? hp
          simpa using this
        rw [hp2] at hh
        cases hh
/-- One Out more. -/
theorem RD.addOut {a : Option Addr} {n c : Nat} (h : RD w b X Y s ver z vi (.slice a n c) xs os wr) (hn : n ≤ 1000) (x : POut) (hx : OkOut x) :
    ∃ a' c' w', (Builtin.append_ #[27, 27] 27 #[.slice a n c, .slice (some ⟨wr.heap.size, 0, none⟩) 1 1]).run Try.prog (wr.alloc (.cells #[.int .i64 x.val, .string x.script] 73)) = .ok (.slice a' (n + 1) c') w' ∧
      w'.heap[Y]? = wr.heap[Y]? ∧ RD w b X Y s ver z vi (.slice a' (n + 1) c') xs (os ++ [x]) (w'.setCell ⟨Y, 2, none⟩ (.slice a' (n + 1) c')) := by
  obtain ⟨ps, rfl, h1, h2⟩ := h.ins
  have hyl := h.ylt
  have hnum := h.num
  have hl : os.length = n := by
    obtain ⟨a9, c9, e9, -, -⟩ := ownsRow_shape h.outs.row
    have : n = os.length := by simpa using (congrArg (fun v => match v with | .slice _ n _ => n | _ => 0) e9)
    exact this.symm
  subst hl
  obtain ⟨i0, hi, hz0, hz1, hz2⟩ := info_parts info_out
  obtain ⟨a3, c3, w3, hrun, hown3, hb3, hg3, hv3⟩ := append_one (P := Try.prog) Try.underlying27 hi hz0 hz1 hz2 rfl h.outs.row #[.int .i64 x.val, .string x.script] rfl (by simp [Value.oneCell']) (by rw [maxLen_eq]; omega) (by omega) (by omega) (ty := 27)
  have hkeep : ∀ k, k < wr.heap.size → (Value.slice a os.length c).ownBlock ≠ some k → w3.heap[k]? = wr.heap[k]? := fun k hk hne => by
    rw [hg3.block k (by simp; omega) (fun e => hne e.symm)]
    exact Below.heap_alloc _ _ k hk
  have hbw : ∀ k, k ≤ Y → w3.heap[k]? = wr.heap[k]? := fun k hk => hb3.block k (by omega)
  have hsz : wr.heap.size ≤ w3.heap.size := hb3.size
  have hset : ∀ k, k ≠ Y → (w3.setCell ⟨Y, 2, none⟩ (.slice a3 (os.length + 1) c3)).heap[k]? = w3.heap[k]? := fun k hk => Below.heap_setCell _ _ _ _ hk
  have hins : InsOwn (Y + 1) w3 vi ps := h1.kept fun k hk => hkeep k (h1.lt hk).2 fun e => h2 k e hk
  refine ⟨a3, c3, w3, hrun, hbw Y (Nat.le_refl _), ?_⟩
  refine ⟨(hset b (by omega)).trans ((hbw b (by omega)).trans h.rd), frY ?_ (by omega) _ _, (hset X (by omega)).trans ((hbw X (by omega)).trans h.x), heap_setCell_at ((hbw Y (Nat.le_refl _)).trans h.y), ⟨ps, rfl, hins.kept fun k hk => hset k (by have := (hins.lt hk).1; omega), fun k hk hh => ?_⟩, ⟨?_, fun y hy => ?_⟩, hnum⟩
  · exact ⟨hb3.os.trans h.fr.os, hb3.tape.trans h.fr.tape, hb3.output.trans h.fr.output, Nat.le_trans h.fr.size hsz, fun k hk hn => (hbw k (by omega)).trans (h.fr.block k hk hn)⟩
  · rcases hv3 with e | e
    · exact h2 k (e ▸ hk) hh
    · rw [e] at hk; have := Option.some.inj hk; have := (h1.lt hh).2; omega
  · have e : outsCells (os ++ [x]) = outsCells os ++ [.int .i64 x.val, .string x.script] := by simp [outsCells, outRow]
    rw [e, List.length_append]
    exact ownsRow_other hown3 _ _ (fun e => by have := (hown3.lt Y e).1; omega)
  · rcases List.mem_append.1 hy with hy | hy
    · exact h.outs.ok y hy
    · rw [List.mem_singleton.1 hy]; exact hx
/-- An In's witness, of texts in a new row. -/
theorem RD.wit {i N : Nat} {x : PIn} {wv : Value} {l' : List ByteArray} (h : RD w b X Y s ver z vi vo xs os wr) (hi : xs[i]? = some x) (ha : RdAt b s z' w') (hf : Fr [b] wr w') (hN : N = wr.heap.size)
    (hrow : w'.ownsRow N 9 1 wv l'.length (strCells l')) (hok : okStrs l') :
    ∃ b0 c v0, vi = .slice (some ⟨b0, 0, none⟩) xs.length c ∧ w'.cell? ⟨b0, i * 4 + 3, none⟩ = some v0 ∧ w'.frozen? ⟨b0, i * 4 + 3, none⟩ = false ∧
      RD w b X Y s ver z' vi vo (xs.set i { x with wit := l' }) os (w'.setCell ⟨b0, i * 4 + 3, none⟩ wv) := by
  have hc := h.call ha hf
  subst hN
  obtain ⟨ps, rfl, h1, h2⟩ := h.ins
  have h1' : InsOwn (Y + 1) w' vi ps := h1.kept fun k hk => hf.block k (h1.lt hk).2 (by have := (h1.lt hk).1; have := h.num; simp; omega)
  rw [List.getElem?_map] at hi
  obtain ⟨⟨y, v0⟩, hp, rfl⟩ := Option.map_eq_some_iff.1 hi
  obtain ⟨a, c, rfl, hc1, hc2⟩ := ownsRow_shape h1.row
  obtain ⟨b0, rfl, hb1, hb2, e0, e1, e2, e3⟩ := h1'.at hp
  have hyl := h.ylt
  have hnum := h.num
  have hfresh : ∀ G, wv.ownBlock = some G → wr.heap.size ≤ G := fun G e => (hrow.lt G e).1
  have hokx := h1.ok i _ hp
  have hset := h1'.set (p' := ({ y with wit := l' }, wv)) hp 3 wv (by omega) rfl (ownsRow_base hrow (by omega)) ⟨hokx.id, hokx.idx, hokx.seq, hok⟩ (by
    cases e : wv.ownBlock with
    | none => exact .inr (.inl rfl)
    | some G => exact .inr (.inr ⟨G, rfl, fun hh => by have := (h1.lt hh).2; have := hfresh G e; omega⟩))
  have hb0 : b0 < wr.heap.size := (h1.lt (.inl rfl)).2
  have hsc : ∀ k, k ≠ b0 → (w'.setCell ⟨b0, i * 4 + 3, none⟩ wv).heap[k]? = w'.heap[k]? := fun k hk => Below.heap_setCell _ _ _ _ hk
  refine ⟨b0, c, v0, by rw [List.length_map], e3, ownsRow_free h1'.row _, ?_⟩
  refine ⟨(hsc b (by omega)).trans ha, frY hc.fr (by omega) _ _, (hsc X (by omega)).trans hc.x, (hsc Y (by omega)).trans hc.y, ⟨_, (List.map_set (f := Prod.fst) (l := ps) (i := i) (a := ({ y with wit := l' }, wv))).symm, hset, fun k hk hh => ?_⟩, hc.outs.kept fun k hk => hsc k fun e => h2 k hk (.inl (by rw [e]; rfl)), hnum⟩
  have hko := (h.outs.row.lt k hk).2
  rcases hh with hh | ⟨j, q, hq, hh⟩
  · exact h2 k hk (.inl hh)
  · by_cases hij : i = j
    · subst hij
      rw [List.getElem?_set_self (List.getElem?_eq_some_iff.1 hp).1] at hq
      obtain rfl := Option.some.inj hq
      have := hfresh k hh
      omega
    · rw [List.getElem?_set_ne hij] at hq
      exact h2 k hk (.inr ⟨j, q, hq, hh⟩)
end
end Go.Proofs.Ytaooibocknemkaa
end
