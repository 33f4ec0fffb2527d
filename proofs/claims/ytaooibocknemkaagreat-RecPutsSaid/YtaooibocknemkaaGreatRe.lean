/-
  The program's reader reads a transaction. Conditions: those of read_any.
-/
import Derived.Test.YtaooibocknemkaaGreatQ10RecPuts
import Derived.Test.YtaooibocknemkaaGreatQ7RecPuts
namespace Go.Proofs.YtaooibocknemkaaGreat
open Go.RowKit Go.BigFrame
open Go.Lib (hid)
set_option linter.unusedVariables false
set_option linter.unusedSimpArgs false

/-- A call by its contract, as one step of a region that draws. -/
theorem step_call_any {P : Program} {ops : Array Oper} {o : Oper} {a : Act} {w : World} {K : Act → World → Prop} {Q : Exit → Act → World → Prop} {E : Prop} {f : FuncId} {args : Array Value} {R : Ending → World → Prop} (hg : o.guard = none)
    (hrun : (execOp a.eval o).run P w = .ok (.enter f args) w) (hc : Calls P f args w R) (hR : ∀ e w', R e w' → ∃ v, e = .returned v ∧ K (a.put o.dst v) w') :
    if Region.wanted o (yielded ops a.tmps) = true then Oper.wp P o a w K Q else E := by
  have hw : Region.wanted o (yielded ops a.tmps) = true := by simp [Region.wanted, hg]
  rw [if_pos hw]
  unfold Oper.wp
  rw [hrun]
  refine hc.mono ?_
  intro e w' h
  obtain ⟨v, rfl, hk⟩ := hR e w' h
  exact hk
theorem textZ_le (n : Nat) (l : List UInt8) (z : Zst) : (textZ n l z).2.size ≤ n := by
  unfold textZ
  split
  · rw [bL_size]; exact Nat.zero_le _
  · split
    · rw [bL_size]; exact Nat.zero_le _
    · dsimp only; rw [bL_size]; unfold pt; rw [List.length_take]; omega
theorem inZ_ok (l : List UInt8) (z : Zst) : OkIn (inZ l z).2 ∧ (inZ l z).2.wit = [] := by
  refine ⟨⟨?_, ?_, ?_, ?_⟩, rfl⟩
  · have := textZ_le 32 l z
    rw [maxLen_eq]
    show (textZ 32 l z).2.size ≤ _
    omega
  · have := numZ_le 4 4294967295 3 l (textZ 32 l z).1
    show (numZ 4 4294967295 3 l (textZ 32 l z).1).2 < _
    omega
  · have := numZ_le 4 4294967295 3 l (cntZ 0 0 4 l (numZ 4 4294967295 3 l (textZ 32 l z).1).1).1
    show (numZ 4 4294967295 3 l (cntZ 0 0 4 l (numZ 4 4294967295 3 l (textZ 32 l z).1).1).1).2 < _
    omega
  · exact fun s hs => by cases hs
theorem outZ_ok (l : List UInt8) (z : Zst) : OkOut (outZ l z).2 := by
  refine ⟨?_, ?_⟩
  · have := numZ_le 8 2100000000000000 3 l z
    show -9223372036854775808 ≤ (((numZ 8 2100000000000000 3 l z).2 : Nat) : Int) ∧ (((numZ 8 2100000000000000 3 l z).2 : Nat) : Int) ≤ _
    omega
  · rw [maxLen_eq]
    have h1 := cntZ_le 0 40 20 l (numZ 8 2100000000000000 3 l z).1
    have h2 := textZ_le (cntZ 0 40 20 l (numZ 8 2100000000000000 3 l z).1).2 l (cntZ 0 40 20 l (numZ 8 2100000000000000 3 l z).1).1
    show (textZ (cntZ 0 40 20 l (numZ 8 2100000000000000 3 l z).1).2 l (cntZ 0 40 20 l (numZ 8 2100000000000000 3 l z).1).1).2.size ≤ _
    omega

theorem repZ_all {α : Type} {F : Prs α} {l : List UInt8} {P : α → Prop} (h : ∀ z, P (F l z).2) (z : Zst) : ∀ n, ∀ x ∈ (repZ F n l z).2, P x
  | 0, x, hx => by cases hx
  | n + 1, x, hx => by
    have hx' : x ∈ (repZ F n l z).2 ++ [(F l (repZ F n l z).1).2] := hx
    rcases List.mem_append.1 hx' with hx | hx
    · exact repZ_all h z n x hx
    · rw [List.mem_singleton.1 hx]; exact h _
theorem item_le (l : List UInt8) (z : Zst) : (itemZ l z).2.size ≤ 80 := by
  have h1 := cntZ_le 0 80 20 l z
  have h2 := textZ_le (cntZ 0 80 20 l z).2 l (cntZ 0 80 20 l z).1
  show (textZ (cntZ 0 80 20 l z).2 l (cntZ 0 80 20 l z).1).2.size ≤ 80
  omega
theorem witZ_ok (l : List UInt8) (z : Zst) : okStrs (witZ l z).2 := by
  intro x hx
  have h := repZ_all (P := fun x : ByteArray => x.size ≤ 80) (item_le l) (cntZ 0 4 6 l z).1 (cntZ 0 4 6 l z).2 x hx
  rw [maxLen_eq]; omega
/-- The first k witnesses are set. -/
def wdone (k : Nat) (xs : List PIn) (ws : List (List ByteArray)) : List PIn := setW (xs.take k) ws ++ xs.drop k
theorem setW_len (xs : List PIn) (ws : List (List ByteArray)) (h : ws.length = xs.length) : (setW xs ws).length = xs.length := by
  unfold setW; rw [List.length_zipWith]; omega
theorem setW_snoc : ∀ (xs : List PIn) (ws : List (List ByteArray)) (x : PIn) (v : List ByteArray), ws.length = xs.length → setW (xs ++ [x]) (ws ++ [v]) = setW xs ws ++ [{ x with wit := v }]
  | [], [], x, v, _ => rfl
  | y :: xs, u :: ws, x, v, h => by
    have := setW_snoc xs ws x v (by simpa using h)
    simp only [setW, List.cons_append, List.zipWith_cons_cons] at this ⊢
    rw [this]
theorem wdone_zero (xs : List PIn) : wdone 0 xs [] = xs := by simp [wdone, setW]
theorem wdone_len {k : Nat} {xs : List PIn} {ws : List (List ByteArray)} (hk : k ≤ xs.length) (h : ws.length = k) : (wdone k xs ws).length = xs.length := by
  unfold wdone
  rw [List.length_append, setW_len _ _ (by rw [List.length_take]; omega), List.length_take, List.length_drop]
  omega
theorem wdone_at {k : Nat} {xs : List PIn} {ws : List (List ByteArray)} {x : PIn} (hx : xs[k]? = some x) (h : ws.length = k) : (wdone k xs ws)[k]? = some x := by
  have hk := (List.getElem?_eq_some_iff.1 hx).1
  have hl : (setW (xs.take k) ws).length = k := by rw [setW_len _ _ (by rw [List.length_take]; omega), List.length_take]; omega
  unfold wdone
  rw [List.getElem?_append_right (by omega), hl, Nat.sub_self, List.getElem?_drop]
  exact hx
theorem wdone_set {k : Nat} {xs : List PIn} {ws : List (List ByteArray)} {x : PIn} {v : List ByteArray} (hx : xs[k]? = some x) (h : ws.length = k) : (wdone k xs ws).set k { x with wit := v } = wdone (k + 1) xs (ws ++ [v]) := by
  have hk := (List.getElem?_eq_some_iff.1 hx).1
  have hl : (setW (xs.take k) ws).length = k := by rw [setW_len _ _ (by rw [List.length_take]; omega), List.length_take]; omega
  unfold wdone
  rw [List.set_append_right _ _ (by omega), hl, Nat.sub_self, List.take_add_one, hx, List.drop_eq_getElem_cons hk]
  rw [show xs[k] = x from (List.getElem?_eq_some_iff.1 hx).2]
  simp only [List.set_cons_zero, Option.toList_some]
  rw [setW_snoc _ _ _ _ (by rw [List.length_take]; omega), List.append_assoc]
  rfl
theorem wdone_all {xs : List PIn} {ws : List (List ByteArray)} {k : Nat} (h : k = xs.length) : wdone k xs ws = setW xs ws := by
  subst h
  unfold wdone
  rw [List.take_length, List.drop_length, List.append_nil]
theorem setW_wits : ∀ (xs : List PIn) (ws : List (List ByteArray)), ws.length = xs.length → (setW xs ws).map (·.wit) = ws
  | [], [], _ => rfl
  | x :: xs, v :: ws, h => by
    have := setW_wits xs ws (by simpa using h)
    simp only [setW, List.zipWith_cons_cons, List.map_cons] at this ⊢
    rw [this]
theorem RD.at {w wr : World} {b X Y ver : Nat} {s : ByteArray} {z : Zst} {vi vo : Value} {xs : List PIn} {os : List POut} (h : RD w b X Y s ver z vi vo xs os wr) {i : Nat} {x : PIn} (hi : xs[i]? = some x) : ∃ b0 c, vi = .slice (some ⟨b0, 0, none⟩) xs.length c := by
  obtain ⟨ps, rfl, h1, -⟩ := h.ins
  obtain ⟨a, c, rfl, -, -⟩ := ownsRow_shape h1.row
  obtain ⟨b, rfl, -, -⟩ := ownsRow_some h1.row (by have := (List.getElem?_eq_some_iff.1 hi).1; rw [List.length_map] at this; omega)
  exact ⟨b, c, by rw [List.length_map]⟩
theorem TxOwn.kept' {base : Nat} {w w' : World} {v : Value} {t : PTx} (h : TxOwn base w v t) (hk : ∀ b, base ≤ b → b < w.heap.size → w'.heap[b]? = w.heap[b]?) : TxOwn base w' v t := by
  obtain ⟨⟨vi, vo, ps, rfl, hp, h1, h2, h3⟩, h4, h5⟩ := h
  exact ⟨⟨vi, vo, ps, rfl, hp, h1.kept fun b hb => hk b (h1.lt hb).1 (h1.lt hb).2, h2.kept fun b hb => hk b (h2.row.lt b hb).1 (h2.row.lt b hb).2, h3⟩, h4, h5⟩

theorem endZ_lt {l : List UInt8} {z : Zst} (h : z.at_ < l.length) : endZ l z = failZ z 4 := by
  unfold endZ failZ
  by_cases he : z.err = 0
  · rw [if_pos ⟨h, he⟩, if_pos he]
  · rw [if_neg (fun hh => he hh.2), if_neg he]
theorem endZ_ge {l : List UInt8} {z : Zst} (h : ¬ z.at_ < l.length) : endZ l z = z := by
  unfold endZ
  rw [if_neg (fun hh => h hh.1)]

set_option maxRecDepth 100000 in
set_option maxHeartbeats 4000000 in
theorem read_any (b : Nat) (s : ByteArray) (w : World) (h : RdAt b s ⟨0, 0⟩ w) (hs : s.size ≤ 9223372036854775000) :
    Calls Tryz.prog 169 #[.pointer (some ⟨b, 0, none⟩)] w (fun e w' => ∃ v, e = .returned v ∧ TxOwn w.heap.size w' v (txOf (allZ s.data.toList ⟨0, 0⟩).2) ∧ RdAt b s (endZ s.data.toList (allZ s.data.toList ⟨0, 0⟩).1) w' ∧ Fr [b] w w') := by
  have HA := hid h
  have hbl := h.lt
  obtain ⟨z1, ver, hz1⟩ : ∃ q1 q2, numZ 4 4294967295 3 s.data.toList ⟨0, 0⟩ = (q1, q2) := ⟨_, _, rfl⟩
  obtain ⟨z2, mk, hz2⟩ : ∃ q1 q2, markZ s.data.toList z1 = (q1, q2) := ⟨_, _, rfl⟩
  obtain ⟨z3, n, hz3⟩ : ∃ q1 q2, cntZ 1 256 6 s.data.toList z2 = (q1, q2) := ⟨_, _, rfl⟩
  obtain ⟨z4, xs, hz4⟩ : ∃ q1 q2, repZ inZ n s.data.toList z3 = (q1, q2) := ⟨_, _, rfl⟩
  obtain ⟨z5, m, hz5⟩ : ∃ q1 q2, cntZ 1 256 6 s.data.toList z4 = (q1, q2) := ⟨_, _, rfl⟩
  obtain ⟨z6, os, hz6⟩ : ∃ q1 q2, repZ outZ m s.data.toList z5 = (q1, q2) := ⟨_, _, rfl⟩
  obtain ⟨z7, ws, hz7⟩ : ∃ q1 q2, wsZ (mk, xs) s.data.toList z6 = (q1, q2) := ⟨_, _, rfl⟩
  obtain ⟨z8, lock, hz8⟩ : ∃ q1 q2, numZ 4 4294967295 3 s.data.toList z7 = (q1, q2) := ⟨_, _, rfl⟩
  have hr : allZ s.data.toList ⟨0, 0⟩ = (z8, (ver, (mk, xs), os, ws, lock)) := by
    unfold allZ miZ insZ outsZ cntRep mapZ seqZ
    rw [hz1]; dsimp only; rw [hz2]; dsimp only; rw [hz3]; dsimp only; rw [hz4]; dsimp only; rw [hz5]; dsimp only; rw [hz6]; dsimp only; rw [hz7]; dsimp only; rw [hz8]
  rw [hr]
  have k1 := (numZ_psr 4 4294967295 3 (by decide)).le' (s := s) (z := ⟨0, 0⟩) (Nat.zero_le _)
  rw [hz1] at k1
  have k2 : z2.at_ ≤ s.size := by
    by_cases he : z1.err = 0
    · have := (mark_bound s.data.toList z1 he (by rw [data_len]; exact k1)).2
      rw [hz2, data_len] at this
      exact this
    · have := mark_stay s.data.toList z1 he
      rw [hz2] at this
      have : z2 = z1 := congrArg Prod.fst this
      rw [this]; exact k1
  have k3 := (cntZ_psr 1 256 6 (by decide) (by decide)).le' (s := s) k2
  rw [hz3] at k3
  have k4 := (inZ_psr.rep n).le' (s := s) k3
  rw [hz4] at k4
  have k5 := (cntZ_psr 1 256 6 (by decide) (by decide)).le' (s := s) k4
  rw [hz5] at k5
  have k6 := (outZ_psr.rep m).le' (s := s) k5
  rw [hz6] at k6
  have k7 := (wsZ_psr (mk, xs)).le' (s := s) k6
  rw [hz7] at k7
  have k8 := (numZ_psr 4 4294967295 3 (by decide)).le' (s := s) k7
  rw [hz8] at k8
  dsimp only at k1 k2 k3 k4 k5 k6 k7 k8
  have hver := numZ_le 4 4294967295 3 s.data.toList ⟨0, 0⟩
  rw [hz1] at hver
  have hlk := numZ_le 4 4294967295 3 s.data.toList z7
  rw [hz8] at hlk
  have hn := cntZ_le 1 256 6 s.data.toList z2
  rw [hz3] at hn
  have hm := cntZ_le 1 256 6 s.data.toList z4
  rw [hz5] at hm
  have hxl := repZ_len inZ s.data.toList z3 n
  rw [hz4] at hxl
  have hol := repZ_len outZ s.data.toList z5 m
  rw [hz6] at hol
  dsimp only at hver hlk hn hm hxl hol
  have q1 : ∀ y, RdAt b s ⟨0, 0⟩ y → _ := fun y hy => four_any b s ⟨0, 0⟩ y hy hs (Nat.zero_le _)
  have q2 : ∀ y, RdAt b s z1 y → _ := fun y hy => marker_any b s z1 y hy hs k1
  have q3 : ∀ y, RdAt b s z2 y → _ := fun y hy => count_any b s z2 1 256 6 y hy hs k2 (by decide) (by decide) (by decide)
  have q5 : ∀ y, RdAt b s z4 y → _ := fun y hy => count_any b s z4 1 256 6 y hy hs k4 (by decide) (by decide) (by decide)
  have q8 : ∀ y, RdAt b s z7 y → _ := fun y hy => four_any b s z7 y hy hs k7
  simp only [hz1] at q1
  simp only [hz2] at q2
  simp only [hz3] at q3
  simp only [hz5] at q5
  simp only [hz8] at q8
  have Q1 := hid q1
  have Q2 := hid q2
  have Q3 := hid q3
  have Q5 := hid q5
  have Q8 := hid q8
  have HZ4 := hid hz4
  have HZ6 := hid hz6
  have HZ7 := hid hz7
  have HK := hid (And.intro hs (And.intro k3 (And.intro k5 (And.intro k6 k8))))
  have HV := hid (And.intro hver hlk)
  have HXL := hid (And.intro hxl hol)
  clear h hr hz1 hz2 hz3 hz4 hz5 hz6 hz7 hz8 k1 k2 k3 k4 k5 k6 k7 k8 q1 q2 q3 q5 q8 hver hlk hs hxl hol
  go_enter Tryz.func169, Tryz.ntmps169
  go_upto_region 1 with fail
  have hz := heap_alloc_new w (.cells #[.int .u32 0, .slice none 0 0, .slice none 0 0, .int .u32 0] 26)
  have hal : Below w.heap.size w (w.alloc (.cells #[.int .u32 0, .slice none 0 0, .slice none 0 0, .int .u32 0] 26)) := (Below.refl _ _).alloc (Nat.le_refl _) _
  obtain ⟨X, hX⟩ : ∃ q, q = w.heap.size := ⟨_, rfl⟩
  rw [← hX] at hz ⊢
  generalize w.alloc (.cells #[.int .u32 0, .slice none 0 0, .slice none 0 0, .int .u32 0] 26) = w0 at *
  have HA := hid (HA.out.below hal)
  have HF := hid (Fr.bel (b := b) hal)
  have HX := hid hz
  have HN := hid (And.intro hX hbl)
  clear hz hal hX hbl
  go_wp2_with fail
  refine (Q1.out _ HA.out).mono ?_
  rintro e w1 ⟨rfl, ha, hf⟩
  have HA := hid ha
  have HX := hid (hf.heap HX.out (by have := HN.out; simp; omega))
  have HF := hid (HF.out.trans' hf)
  clear ha hf Q1
  go_upto_region 2 with fail
  have hz := heap_alloc_new w1 (.cells #[.int .u32 ver, .slice none 0 0, .slice none 0 0, .int .u32 0] 26)
  have hal : Below w1.heap.size w1 (w1.alloc (.cells #[.int .u32 ver, .slice none 0 0, .slice none 0 0, .int .u32 0] 26)) := (Below.refl _ _).alloc (Nat.le_refl _) _
  obtain ⟨Y, hY⟩ : ∃ q, q = w1.heap.size := ⟨_, rfl⟩
  rw [← hY] at hz ⊢
  generalize w1.alloc (.cells #[.int .u32 ver, .slice none 0 0, .slice none 0 0, .int .u32 0] 26) = w2 at *
  have hrd : RD w b X Y s ver z1 (.slice none 0 0) (.slice none 0 0) [] [] w2 :=
    ⟨HA.out.below hal, HF.out.trans' (Fr.bel hal), (hal.block X (Array.getElem?_eq_some_iff.1 HX.out).1).trans HX.out, hz, ⟨[], rfl, insOwn_nil _ _, fun k e => by cases e⟩, outsOwn_nil _ _,
      by have := HN.out; have := (Array.getElem?_eq_some_iff.1 HX.out).1; omega⟩
  have HRD := hid hrd
  clear hrd hz hal hY HA HF HX HN
  go_wp2_with fail
  refine (Q2.out _ HRD.out.rd).mono ?_
  rintro e w3 ⟨rfl, ha, hf⟩
  have HRD := hid (HRD.out.call ha hf)
  clear ha hf Q2
  go_wp2_with fail
  refine (Q3.out _ HRD.out.rd).mono ?_
  rintro e w4 ⟨rfl, ha, hf⟩
  have HRD := hid (HRD.out.call ha hf)
  clear ha hf Q3
  go_wp2_with fail
  go_loopg [14] n (fun g vi wr => ∃ (k : Nat) (va : Value), g = n - k ∧ k ≤ n ∧ vi = .int .i64 k ∧ RD w b X Y s ver (repZ inZ k s.data.toList z3).1 va (.slice none 0 0) (repZ inZ k s.data.toList z3).2 [] wr)
  case atStart => exact ⟨0, _, rfl, by omega, rfl, HRD.out⟩
  case round =>
    clear HRD
    rename World => wr
    obtain ⟨k, va, hgk, hk, rfl, hrd⟩ := hrel
    have HGK := hid hgk
    by_cases hlt : k < n
    · obtain ⟨zk, xk, hzk⟩ : ∃ q1 q2, repZ inZ k s.data.toList z3 = (q1, q2) := ⟨_, _, rfl⟩
      obtain ⟨z', x', hz'⟩ : ∃ q1 q2, inZ s.data.toList zk = (q1, q2) := ⟨_, _, rfl⟩
      have hst : repZ inZ (k + 1) s.data.toList z3 = (z', xk ++ [x']) := by
        show ((inZ s.data.toList (repZ inZ k s.data.toList z3).1).1, _ ++ [(inZ s.data.toList (repZ inZ k s.data.toList z3).1).2]) = _
        rw [hzk]
        dsimp only
        rw [hz']
      have kk := (inZ_psr.rep k).le' (s := s) HK.out.2.1
      rw [hzk] at kk hrd
      have hxk := repZ_len inZ s.data.toList z3 k
      rw [hzk] at hxk
      dsimp only at kk hrd hxk
      have hok := inZ_ok s.data.toList zk
      rw [hz'] at hok
      dsimp only at hok
      have q : ∀ y, RdAt b s zk y → _ := fun y hy => in_any b s zk y hy HK.out.1 kk
      simp only [hz', inV] at q
      have QI := hid q
      have HST := hid hst
      have HOK := hid hok
      obtain ⟨a, c, rfl, -, -⟩ := hrd.ilen
      rw [hxk] at hrd
      have y1 : wr.cell? ⟨Y, 1, none⟩ = some (.slice a k c) := cell_at hrd.y
      have HRD := hid hrd
      clear hst hzk hz' kk hxk hok q hrd hgk
      go_upto_block 1 with fail
      go_cut [] (fun wx => ∃ va', RD w b X Y s ver z' va' (.slice none 0 0) (xk ++ [x']) [] wx)
      case first =>
        go_upto_region 5 with fail
        go_region_law (first
          | (refine step_call_any rfl (f := 184) (args := #[.pointer (some ⟨b, 0, none⟩)]) (by kernel_rfl) (QI.out _ HRD.out.rd) ?_; rintro e wc ⟨rfl, ha, hf⟩; refine ⟨_, rfl, ?_⟩; have hrd2 := HRD.out.call (z' := z') ha ((Fr.drew [b] wr).trans' hf); have y1' : wc.cell? ⟨Y, 1, none⟩ = some (.slice a k c) := cell_at hrd2.y; have y1a : ∀ o, (wc.alloc o).cell? ⟨Y, 1, none⟩ = some (.slice a k c) := fun o => cell_over y1' o; obtain ⟨a2, c2, wd, hrun, hy2, hfin⟩ := hrd2.addIn (by omega) x' HOK.out.2 HOK.out.1; have y2 : wd.cell? ⟨Y, 1, none⟩ = some (.slice a k c) := cell_at (hy2.trans hrd2.y); have g2 : wd.frozen? ⟨Y, 1, none⟩ = false := free_at (hy2.trans hrd2.y); have HR := hid hrun; have HFI := hid hfin; have HRD2 := hid hrd2; clear hrun hfin hy2 hrd2 ha hf)
          | (refine step_append_run rfl (.tmp 17) (.tmp 20) 23 23 rfl rfl rfl HR.out ?_))
        all_goals (go_wp2_with fail; go_meet; exact ⟨_, HFI.out⟩)
      case rest =>
        obtain ⟨va', hrd⟩ := hcut
        have HRD := hid hrd
        clear hrd y1
        go_wp2_with fail
        go_roundg (n - (k + 1))
        case measure => have := HGK.out; omega
        case rel => exact ⟨k + 1, va', rfl, by omega, by go_num, by rw [HST.out]; exact HRD.out⟩
    · obtain rfl : k = n := by omega
      rw [HZ4.out] at hrd
      have HRD := hid hrd
      clear hrd hgk
      go_wp2_with fail
      refine (Q5.out _ HRD.out.rd).mono ?_
      rintro e w5 ⟨rfl, ha, hf⟩
      have HRD := hid (HRD.out.call ha hf)
      clear ha hf Q5
      go_wp2_with fail
      go_loopg [26] m (fun g vi wr => ∃ (j : Nat) (vo : Value), g = m - j ∧ j ≤ m ∧ vi = .int .i64 j ∧ RD w b X Y s ver (repZ outZ j s.data.toList z5).1 va vo xs (repZ outZ j s.data.toList z5).2 wr)
      case atStart => exact ⟨0, _, rfl, by omega, rfl, HRD.out⟩
      case round =>
        clear HRD
        rename World => wr
        obtain ⟨j, vo, hgk, hj, rfl, hrd⟩ := hrel
        have HGJ := hid hgk
        by_cases hlt : j < m
        · obtain ⟨zk, xk, hzk⟩ : ∃ q1 q2, repZ outZ j s.data.toList z5 = (q1, q2) := ⟨_, _, rfl⟩
          obtain ⟨z', x', hz'⟩ : ∃ q1 q2, outZ s.data.toList zk = (q1, q2) := ⟨_, _, rfl⟩
          have hst : repZ outZ (j + 1) s.data.toList z5 = (z', xk ++ [x']) := by
            show ((outZ s.data.toList (repZ outZ j s.data.toList z5).1).1, _ ++ [(outZ s.data.toList (repZ outZ j s.data.toList z5).1).2]) = _
            rw [hzk]
            dsimp only
            rw [hz']
          have kk := (outZ_psr.rep j).le' (s := s) HK.out.2.2.1
          rw [hzk] at kk hrd
          have hxk := repZ_len outZ s.data.toList z5 j
          rw [hzk] at hxk
          dsimp only at kk hrd hxk
          have hok := outZ_ok s.data.toList zk
          rw [hz'] at hok
          dsimp only at hok
          have q : ∀ y, RdAt b s zk y → _ := fun y hy => out_any b s zk y hy HK.out.1 kk
          simp only [hz', outRV] at q
          have QI := hid q
          have HST := hid hst
          have HOK := hid hok
          obtain ⟨a, c, rfl, -, -⟩ := hrd.olen
          rw [hxk] at hrd
          have y1 : wr.cell? ⟨Y, 2, none⟩ = some (.slice a j c) := cell_at hrd.y
          have HRD := hid hrd
          clear hst hzk hz' kk hxk hok q hrd hgk
          go_upto_block 3 with fail
          go_cut [] (fun wx => ∃ vo', RD w b X Y s ver z' va vo' xs (xk ++ [x']) wx)
          case first =>
            go_upto_region 9 with fail
            go_region_law (first
              | (refine step_call_any rfl (f := 185) (args := #[.pointer (some ⟨b, 0, none⟩)]) (by kernel_rfl) (QI.out _ HRD.out.rd) ?_; rintro e wc ⟨rfl, ha, hf⟩; refine ⟨_, rfl, ?_⟩; have hrd2 := HRD.out.call (z' := z') ha ((Fr.drew [b] wr).trans' hf); have y1' : wc.cell? ⟨Y, 2, none⟩ = some (.slice a j c) := cell_at hrd2.y; have y1a : ∀ o, (wc.alloc o).cell? ⟨Y, 2, none⟩ = some (.slice a j c) := fun o => cell_over y1' o; obtain ⟨a2, c2, wd, hrun, hy2, hfin⟩ := hrd2.addOut (by omega) x' HOK.out; have y2 : wd.cell? ⟨Y, 2, none⟩ = some (.slice a j c) := cell_at (hy2.trans hrd2.y); have g2 : wd.frozen? ⟨Y, 2, none⟩ = false := free_at (hy2.trans hrd2.y); have HR := hid hrun; have HFI := hid hfin; have HRD2 := hid hrd2; clear hrun hfin hy2 hrd2 ha hf)
              | (refine step_append_run rfl (.tmp 29) (.tmp 32) 24 24 rfl rfl rfl HR.out ?_))
            all_goals (go_wp2_with fail; go_meet; exact ⟨_, HFI.out⟩)
          case rest =>
            obtain ⟨vo', hrd⟩ := hcut
            have HRD := hid hrd
            clear hrd y1
            go_wp2_with fail
            go_roundg (m - (j + 1))
            case measure => have := HGJ.out; omega
            case rel => exact ⟨j + 1, vo', rfl, by omega, by go_num, by rw [HST.out]; exact HRD.out⟩
        · obtain rfl : j = m := by omega
          rw [HZ6.out] at hrd
          have HRD := hid hrd
          clear hrd hgk
          go_upto_if 36 with fail
          go_cut [] (fun wx => RD w b X Y s ver z7 va vo (if mk = true then setW xs ws else xs) os wx)
          case first =>
            by_cases hmk : mk = true
            · subst hmk
              have hz7 : witsZ xs.length s.data.toList z6 = (z7, ws) := HZ7.out
              obtain ⟨zw, ww, hzw⟩ : ∃ q1 q2, repZ witZ xs.length s.data.toList z6 = (q1, q2) := ⟨_, _, rfl⟩
              have hwl := repZ_len witZ s.data.toList z6 xs.length
              have hkw := (witZ_psr.rep xs.length).le' (s := s) HK.out.2.2.2.1
              unfold witsZ at hz7
              rw [hzw] at hz7 hwl hkw
              dsimp only at hz7 hwl hkw
              have hws : ww = ws := congrArg Prod.snd hz7
              subst hws
              have hzz : (if zw.err = 0 ∧ anyW ww = false then ⟨z6.at_, 4⟩ else zw) = z7 := congrArg Prod.fst hz7
              have HZZ := hid hzz
              have HZW := hid hzw
              have HWL := hid hwl
              have d1 : wr.cell? ⟨b, 1, none⟩ = some (.int .i64 z6.at_) := cell_at HRD.out.rd
              obtain ⟨a, c, rfl, -, -⟩ := HRD.out.ilen
              rw [HXL.out.1] at HRD
              have y1 : wr.cell? ⟨Y, 1, none⟩ = some (.slice a k c) := cell_at HRD.out.y
              have HRW := hid (show RD w b X Y s ver (repZ witZ 0 s.data.toList z6).1 (.slice a k c) vo (wdone 0 xs (repZ witZ 0 s.data.toList z6).2) os wr by
                have h1 : repZ witZ 0 s.data.toList z6 = (z6, []) := rfl
                rw [h1]; dsimp only; rw [wdone_zero]; exact HRD.out)
              clear hz7 hzz hzw hwl hkw HRD
              go_wp2_with fail
              go_loopg [44] k (fun g vi wq => ∃ i : Nat, g = k - i ∧ i ≤ k ∧ vi = .int .i64 i ∧ RD w b X Y s ver (repZ witZ i s.data.toList z6).1 (.slice a k c) vo (wdone i xs (repZ witZ i s.data.toList z6).2) os wq)
              case atStart => exact ⟨0, rfl, by omega, rfl, HRW.out⟩
              case round =>
                clear HRW y1 d1
                rename World => wq
                obtain ⟨i, hgk, hik, rfl, hrd⟩ := hrel
                have HGI := hid hgk
                have hwl := repZ_len witZ s.data.toList z6 i
                by_cases hlt : i < k
                · obtain ⟨zk, wk, hzk⟩ : ∃ q1 q2, repZ witZ i s.data.toList z6 = (q1, q2) := ⟨_, _, rfl⟩
                  obtain ⟨z', v', hz'⟩ : ∃ q1 q2, witZ s.data.toList zk = (q1, q2) := ⟨_, _, rfl⟩
                  have hst : repZ witZ (i + 1) s.data.toList z6 = (z', wk ++ [v']) := by
                    show ((witZ s.data.toList (repZ witZ i s.data.toList z6).1).1, _ ++ [(witZ s.data.toList (repZ witZ i s.data.toList z6).1).2]) = _
                    rw [hzk]
                    dsimp only
                    rw [hz']
                  have kk := (witZ_psr.rep i).le' (s := s) HK.out.2.2.2.1
                  rw [hzk] at kk hrd hwl
                  dsimp only at kk hrd hwl
                  have hok := witZ_ok s.data.toList zk
                  rw [hz'] at hok
                  dsimp only at hok
                  have q : ∀ y, RdAt b s zk y → _ := fun y hy => witness_any b s zk y hy HK.out.1 kk
                  simp only [hz'] at q
                  obtain ⟨x, hx⟩ : ∃ x, xs[i]? = some x := ⟨_, List.getElem?_eq_getElem (by have := HXL.out.1; omega)⟩
                  have hat := wdone_at hx hwl
                  obtain ⟨b0, c0, e0⟩ := hrd.at hat
                  rw [wdone_len (by have := HXL.out.1; omega) hwl, HXL.out.1] at e0
                  obtain ⟨rfl, rfl⟩ : a = some ⟨b0, 0, none⟩ ∧ c = c0 := by simpa using e0
                  have hset := wdone_set (v := v') hx hwl
                  have QI := hid q
                  have HST := hid hst
                  have HOK := hid hok
                  have HAT := hid hat
                  have HSE := hid hset
                  have y1 : wq.cell? ⟨Y, 1, none⟩ = some (.slice (some ⟨b0, 0, none⟩) k c) := cell_at hrd.y
                  have HRD := hid hrd
                  have hi0 : (0 : Int) ≤ (i : Int) := by omega
                  have hi1 : (i : Int) < (k : Int) := by omega
                  clear hst hzk hz' kk hok q hrd hgk hx hat e0 hset hwl
                  go_upto_block 5 with fail
                  go_cut [] (fun wx => RD w b X Y s ver z' (.slice (some ⟨b0, 0, none⟩) k c) vo (wdone (i + 1) xs (wk ++ [v'])) os wx)
                  case first =>
                    go_upto_region 16 with fail
                    go_region_law (first
                      | (refine step_call_any rfl (f := 186) (args := #[.pointer (some ⟨b, 0, none⟩)]) (by kernel_rfl) (QI.out _ HRD.out.rd) ?_; rintro e wc ⟨v9, rfl, hrow, ha, hf⟩; obtain ⟨a9, c9, rfl, -, -⟩ := ownsRow_shape hrow; refine ⟨_, rfl, ?_⟩; have hfx : Fr [b] wq wc := (Fr.drew [b] wq).trans' hf; have y1' : wc.cell? ⟨Y, 1, none⟩ = some (.slice (some ⟨b0, 0, none⟩) k c) := cell_at (HRD.out.call ha hfx).y; obtain ⟨b1, c1, v0, e1, hc3, hf3, hfin⟩ := HRD.out.wit HAT.out ha hfx rfl hrow HOK.out; obtain rfl : b0 = b1 := (by simp at e1; exact e1.1); rw [HSE.out] at hfin; have HFI := hid hfin; clear hfin hrow ha hf hfx e1))
                    all_goals (go_wp2_with fail; go_meet; exact HFI.out)
                  case rest =>
                    have HRD := hid hcut
                    clear hcut y1
                    go_wp2_with fail
                    go_roundg (k - (i + 1))
                    case measure => have := HGI.out; omega
                    case rel => exact ⟨i + 1, rfl, by omega, by go_num, by rw [HST.out]; exact HRD.out⟩
                · obtain rfl : i = k := by omega
                  have hzw : repZ witZ i s.data.toList z6 = (zw, ww) := HXL.out.1 ▸ HZW.out
                  rw [hzw] at hrd hwl
                  dsimp only at hrd hwl
                  rw [wdone_all HXL.out.1.symm] at hrd
                  have HRD := hid hrd
                  have d1 : wq.cell? ⟨b, 1, none⟩ = some (.int .i64 zw.at_) := cell_at hrd.rd
                  have d2 : wq.cell? ⟨b, 2, none⟩ = some (.int .i64 zw.err) := cell_at hrd.rd
                  by_cases hze : zw.err = 0
                  · have hz2 := hrd.tx (by have := HV.out.1; omega)
                    have hwo : witOf ⟨ver, setW xs ww, os, 0⟩ = anyW ww := by
                      rw [← anyW_of]
                      show anyW ((setW xs ww).map (·.wit)) = _
                      rw [setW_wits xs ww (by have := HWL.out; omega)]
                    have HQ := hid (witnessed_any _ _ wq hz2)
                    rw [hwo] at HQ
                    obtain ⟨ao, co, rfl, -, -⟩ := hrd.olen
                    have y0 : wq.cell? ⟨Y, 0, none⟩ = some (.int .u32 ver) := cell_at hrd.y
                    have y1 : wq.cell? ⟨Y, 1, none⟩ = some (.slice a i c) := cell_at hrd.y
                    have y2 : wq.cell? ⟨Y, 2, none⟩ = some (.slice ao os.length co) := cell_at hrd.y
                    have y3 : wq.cell? ⟨Y, 3, none⟩ = some (.int .u32 0) := cell_at hrd.y
                    have HZE := hid hze
                    rw [hze] at d2
                    clear hz2 hwo hzw hrd hgk hwl hze d1
                    cases hany : anyW ww
                    · have HZ7' := hid (show (⟨z6.at_, 4⟩ : Zst) = z7 from (if_pos ⟨HZE.out, hany⟩).symm.trans HZZ.out)
                      rw [hany] at HQ
                      clear hany
                      go_wp2_with fail
                      refine HQ.out.mono ?_
                      rintro e wv ⟨rfl, hb⟩
                      have HRV := hid (HRD.out.below hb)
                      have d1 : wv.cell? ⟨b, 1, none⟩ = some (.int .i64 zw.at_) := cell_at HRV.out.rd
                      have g1 : wv.frozen? ⟨b, 1, none⟩ = false := free_at HRV.out.rd
                      clear hb HRD HQ
                      have hat := HRV.out.rd.setAt z6.at_
                      have HRU := hid (HRV.out.call hat (Fr.setCell wv ⟨b, 1, none⟩ (.int .i64 z6.at_) (by simp)))
                      clear hat
                      go_wp2_with fail
                      generalize wv.setCell ⟨b, 1, none⟩ (.int .i64 z6.at_) = wu at *
                      refine (fail_any b s _ 4 wu HRU.out.rd).mono ?_
                      rintro e wt ⟨rfl, ha, hf⟩
                      have HRT := hid (HRU.out.call ha hf)
                      have hfz : failZ ⟨z6.at_, zw.err⟩ 4 = ⟨z6.at_, 4⟩ := by unfold failZ; rw [HZE.out]; rfl
                      rw [hfz, HZ7'.out] at HRT
                      clear ha hf hfz HRU HRV
                      go_wp2_with fail
                      go_meet
                      have h9 := HRT.out
                      rw [← HXL.out.1] at h9
                      first | rw [if_pos trivial] | rw [if_pos rfl]
                      exact h9
                    · have HZ7' := hid (show zw = z7 from (if_neg (fun h => by rw [hany] at h; cases h.2)).symm.trans HZZ.out)
                      rw [hany] at HQ
                      clear hany
                      go_wp2_with fail
                      refine HQ.out.mono ?_
                      rintro e wv ⟨rfl, hb⟩
                      have HRV := hid (HRD.out.below hb)
                      rw [HZ7'.out] at HRV
                      clear hb HRD HQ
                      go_wp2_with fail
                      go_meet
                      have h9 := HRV.out
                      rw [← HXL.out.1] at h9
                      first | rw [if_pos trivial] | rw [if_pos rfl]
                      exact h9
                  · have HZ7' := hid (show zw = z7 from (if_neg (fun h => hze h.1)).symm.trans HZZ.out)
                    rw [HZ7'.out] at HRD
                    have hze1 : (zw.err == 0) = false := by simpa using hze
                    obtain ⟨er, her⟩ : ∃ er, er = zw.err := ⟨_, rfl⟩
                    rw [← her] at hze1 d2 hze
                    clear hrd hgk hwl hzw her d1
                    go_wp2_with fail
                    go_meet
                    have h9 := HRD.out
                    rw [← HXL.out.1] at h9
                    first | rw [if_pos trivial] | rw [if_pos rfl]
                    exact h9
            · have hmf : mk = false := by simpa using hmk
              subst hmf
              have hz7 : ((z6, []) : Zst × List (List ByteArray)) = (z7, ws) := HZ7.out
              have hz7a : z6 = z7 := congrArg Prod.fst hz7
              subst hz7a
              clear hz7
              go_wp2_with fail
              go_meet
              first | rw [if_neg not_false] | rw [if_neg (show ¬ (false = true) by simp)]
              exact HRD.out
          case rest =>
            rename World => wx
            obtain ⟨fin, hfin⟩ : ∃ f, f = if mk = true then setW xs ws else xs := ⟨_, rfl⟩
            rw [← hfin] at hcut
            have HTX := hid (show txOf (ver, (mk, xs), os, ws, lock) = ⟨ver, fin, os, lock⟩ by rw [hfin]; rfl)
            have HRD := hid hcut
            clear hcut hfin
            go_wp2_with fail
            refine (Q8.out _ HRD.out.rd).mono ?_
            rintro e w9 ⟨rfl, ha, hf⟩
            have hrd := HRD.out.call ha hf
            obtain ⟨a, c, rfl, -, -⟩ := hrd.ilen
            obtain ⟨ao, co, rfl, -, -⟩ := hrd.olen
            have hnum := hrd.num
            have hown := hrd.own (show ver < 4294967296 by have := HV.out.1; omega) lock (by have := HV.out.2; omega)
            have hown2 : TxOwn (Y + 1) (w9.setCell ⟨Y, 3, none⟩ (.int .u32 lock)) (.agg #[.int .u32 ver, .slice a fin.length c, .slice ao os.length co, .int .u32 lock]) ⟨ver, fin, os, lock⟩ :=
              hown.kept' fun k hk _ => Below.heap_setCell _ _ _ _ (by dsimp only; omega)
            have hy2 := heap_setCell_at (j := 3) (u := .int .u32 lock) hrd.y
            have hx2 := (Below.heap_setCell w9 ⟨Y, 3, none⟩ (.int .u32 lock) X (by dsimp only; omega)).trans hrd.x
            have hr2 : RdAt b s z8 (w9.setCell ⟨Y, 3, none⟩ (.int .u32 lock)) := (Below.heap_setCell w9 ⟨Y, 3, none⟩ (.int .u32 lock) b (by dsimp only; omega)).trans hrd.rd
            have hf2 := frY hrd.fr (show w.heap.size ≤ Y by omega) 3 (.int .u32 lock)
            have y3 : w9.cell? ⟨Y, 3, none⟩ = some (.int .u32 0) := cell_at hrd.y
            have g3 : w9.frozen? ⟨Y, 3, none⟩ = false := free_at hrd.y
            have HO := hid hown2
            have HY := hid hy2
            have HX := hid hx2
            have HR := hid hr2
            have HF := hid hf2
            have HNU := hid hnum
            clear hown hown2 hy2 hx2 hr2 hf2 hnum hrd ha hf HRD Q8
            go_upto_region 22 with fail
            generalize w9.setCell ⟨Y, 3, none⟩ (.int .u32 lock) = wz at *
            clear y3 g3
            have d0 : wz.cell? ⟨b, 0, none⟩ = some (.string s) := cell_at HR.out
            have d1 : wz.cell? ⟨b, 1, none⟩ = some (.int .i64 z8.at_) := cell_at HR.out
            have hat := HK.out.2.2.2.2
            have hatI : (z8.at_ : Int) ≤ (s.size : Int) := by omega
            obtain ⟨C, hC⟩ : ∃ C : World → Prop, C = fun w' => Below wz.heap.size wz w' := ⟨_, rfl⟩
            have kd0 := kin_cell hC d0
            have kd1 := kin_cell hC d1
            by_cases hlt : z8.at_ < s.size
            · have hltI : (z8.at_ : Int) < (s.size : Int) := by omega
              have HEZ := hid (endZ_lt (l := s.data.toList) (z := z8) (by rw [data_len]; exact hlt))
              clear hat
              have HC := hid hC
              clear hC
              refine wp_region_kin C (by kernel_rfl) (by kernel_rfl) (by rw [HC.out]; exact ⟨rfl, rfl, rfl, Nat.le_refl _, fun _ _ => rfl⟩) ?_
              intro hne
              repeat (first | (go_big_quiet_step (fail)) | (quiet_step (fail)))
              refine wpQuiet_nil ?_
              intro _ hw'
              obtain ⟨kx, hw''⟩ := hw'
              subst hw''
              obtain ⟨wk, hxc⟩ := kx
              rw [HC.out] at hxc
              clear HC hne kd0 kd1
              have HO := hid (HO.out.below hxc)
              have HX := hid ((hxc.block X (Array.getElem?_eq_some_iff.1 HX.out).1).trans HX.out)
              have HY := hid ((hxc.block Y (Array.getElem?_eq_some_iff.1 HY.out).1).trans HY.out)
              have HR := hid (HR.out.below hxc)
              have HF := hid (HF.out.trans' (Fr.bel (b := b) hxc))
              clear hxc d0 d1
              go_wp2_with fail
              refine (fail_any b s _ 4 wk HR.out).mono ?_
              rintro e wl ⟨rfl, ha, hf⟩
              have hxn : X ≠ b := by have := HNU.out; omega
              have hyn : Y ≠ b := by have := HNU.out; omega
              have HX := hid (hf.heap HX.out (by simpa using hxn))
              have HY := hid (hf.heap HY.out (by simpa using hyn))
              have HO := hid (HO.out.kept' fun k hk hkl => hf.block k hkl (by have := HNU.out; simp; omega))
              have HR := hid ha
              have HF := hid (HF.out.trans' hf)
              clear ha hf hxn hyn
              have y0 : wl.cell? ⟨Y, 0, none⟩ = some (.int .u32 ver) := cell_at HY.out
              have y1 : wl.cell? ⟨Y, 1, none⟩ = some (.slice a fin.length c) := cell_at HY.out
              have y2 : wl.cell? ⟨Y, 2, none⟩ = some (.slice ao os.length co) := cell_at HY.out
              have y3 : wl.cell? ⟨Y, 3, none⟩ = some (.int .u32 lock) := cell_at HY.out
              have x0 : wl.cell? ⟨X, 0, none⟩ = some (.int .u32 0) := cell_at HX.out
              have x1 : wl.cell? ⟨X, 1, none⟩ = some (.slice none 0 0) := cell_at HX.out
              have x2 : wl.cell? ⟨X, 2, none⟩ = some (.slice none 0 0) := cell_at HX.out
              have x3 : wl.cell? ⟨X, 3, none⟩ = some (.int .u32 0) := cell_at HX.out
              have f0 : wl.frozen? ⟨X, 0, none⟩ = false := free_at HX.out
              have f1 : wl.frozen? ⟨X, 1, none⟩ = false := free_at HX.out
              have f2 : wl.frozen? ⟨X, 2, none⟩ = false := free_at HX.out
              have f3 : wl.frozen? ⟨X, 3, none⟩ = false := free_at HX.out
              obtain ⟨-, c5⟩ := four_cells' HX.out (.int .u32 ver) (.slice a fin.length c) (.slice ao os.length co) (.int .u32 lock)
              have hfx := c5 [X] (by simp)
              have HFF := hid (fr_new ((fr_wide (X := X) (Y := X) HF.out).trans' (c5 [b, X, X] (by simp))) (by have := HNU.out; omega) (by have := HNU.out; omega))
              have HRR := hid (show RdAt b s (failZ z8 4) _ from (hfx.block b HR.out.lt (by have := HNU.out; simp; omega)).trans HR.out)
              have HOO := hid ((HO.out.kept' (fun k hk hkl => hfx.block k hkl (by have := HNU.out; simp; omega))).base (base' := w.heap.size) (by have := HNU.out; omega))
              clear c5 hfx HX HY
              go_wp2_with fail
              refine bodyPost_ret (v := .agg #[.int .u32 ver, .slice a fin.length c, .slice ao os.length co, .int .u32 lock]) (by simp [results, Tryz.results169, go_sem, x0, x1, x2, x3]) rfl ⟨_, rfl, by rw [HTX.out]; exact HOO.out, by rw [HEZ.out]; exact HRR.out, HFF.out⟩
            · have hltI : ¬ (z8.at_ : Int) < (s.size : Int) := by omega
              have HEZ := hid (endZ_ge (l := s.data.toList) (z := z8) (by rw [data_len]; exact hlt))
              clear hat
              have HC := hid hC
              clear hC
              refine wp_region_kin C (by kernel_rfl) (by kernel_rfl) (by rw [HC.out]; exact ⟨rfl, rfl, rfl, Nat.le_refl _, fun _ _ => rfl⟩) ?_
              intro hne
              repeat (first | (go_big_quiet_step (fail)) | (quiet_step (fail)))
              refine wpQuiet_nil ?_
              intro _ hw'
              obtain ⟨kx, hw''⟩ := hw'
              subst hw''
              obtain ⟨wl, hxc⟩ := kx
              rw [HC.out] at hxc
              clear HC hne kd0 kd1
              have HO := hid (HO.out.below hxc)
              have HX := hid ((hxc.block X (Array.getElem?_eq_some_iff.1 HX.out).1).trans HX.out)
              have HY := hid ((hxc.block Y (Array.getElem?_eq_some_iff.1 HY.out).1).trans HY.out)
              have HR := hid (HR.out.below hxc)
              have HF := hid (HF.out.trans' (Fr.bel (b := b) hxc))
              clear hxc d0 d1
              have y0 : wl.cell? ⟨Y, 0, none⟩ = some (.int .u32 ver) := cell_at HY.out
              have y1 : wl.cell? ⟨Y, 1, none⟩ = some (.slice a fin.length c) := cell_at HY.out
              have y2 : wl.cell? ⟨Y, 2, none⟩ = some (.slice ao os.length co) := cell_at HY.out
              have y3 : wl.cell? ⟨Y, 3, none⟩ = some (.int .u32 lock) := cell_at HY.out
              have x0 : wl.cell? ⟨X, 0, none⟩ = some (.int .u32 0) := cell_at HX.out
              have x1 : wl.cell? ⟨X, 1, none⟩ = some (.slice none 0 0) := cell_at HX.out
              have x2 : wl.cell? ⟨X, 2, none⟩ = some (.slice none 0 0) := cell_at HX.out
              have x3 : wl.cell? ⟨X, 3, none⟩ = some (.int .u32 0) := cell_at HX.out
              have f0 : wl.frozen? ⟨X, 0, none⟩ = false := free_at HX.out
              have f1 : wl.frozen? ⟨X, 1, none⟩ = false := free_at HX.out
              have f2 : wl.frozen? ⟨X, 2, none⟩ = false := free_at HX.out
              have f3 : wl.frozen? ⟨X, 3, none⟩ = false := free_at HX.out
              obtain ⟨-, c5⟩ := four_cells' HX.out (.int .u32 ver) (.slice a fin.length c) (.slice ao os.length co) (.int .u32 lock)
              have hfx := c5 [X] (by simp)
              have HFF := hid (fr_new ((fr_wide (X := X) (Y := X) HF.out).trans' (c5 [b, X, X] (by simp))) (by have := HNU.out; omega) (by have := HNU.out; omega))
              have HRR := hid (show RdAt b s z8 _ from (hfx.block b HR.out.lt (by have := HNU.out; simp; omega)).trans HR.out)
              have HOO := hid ((HO.out.kept' (fun k hk hkl => hfx.block k hkl (by have := HNU.out; simp; omega))).base (base' := w.heap.size) (by have := HNU.out; omega))
              clear c5 hfx HX HY
              go_wp2_with fail
              refine bodyPost_ret (v := .agg #[.int .u32 ver, .slice a fin.length c, .slice ao os.length co, .int .u32 lock]) (by simp [results, Tryz.results169, go_sem, x0, x1, x2, x3]) rfl ⟨_, rfl, by rw [HTX.out]; exact HOO.out, by rw [HEZ.out]; exact HRR.out, HFF.out⟩
end Go.Proofs.YtaooibocknemkaaGreat
