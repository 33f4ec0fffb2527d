/-
  Claims by their points: the order, insertion sort, the stable sort of up to twenty. Conditions: the claims lie in a row of the call's own.
-/
import Derived.Test.YtmakghcoehkphaaGreatQ4ClaimBuilds
import Derived.Test.YtmakghcoehkphaaGreatKh
import Derived.Test.YtmakghcoehkphaaGreatKg
import Derived.Test.YtmakghcoehkphaaGreatQ8ClaimBuilds
import Derived.Test.YtmakghcoehkphaaGreatQ2ClaimBuilds
import Derived.BigRegion
namespace Go.Proofs.YtmakghcoehkphaaGreat
open Go.RowKit Go.BigFrame
set_option linter.unusedVariables false
set_option linter.unusedSimpArgs false

def ltC (a b : PCl) : Bool := lessPt (a.id, a.idx) (b.id, b.idx)
theorem weakC : Weak ltC := weakPt.by_key fun a : PCl => (a.id, a.idx)
def ordC (a b : PCl) : Int := if ltC a b = true then -1 else if ltC b a = true then 1 else 0
theorem ordC_neg (a b : PCl) : decide (ordC a b < 0) = ltC a b := by
  unfold ordC
  cases ltC a b <;> cases ltC b a <;> decide
theorem ordC_big (a b : PCl) : -1 ≤ ordC a b ∧ ordC a b ≤ 1 := by
  unfold ordC
  cases ltC a b <;> cases ltC b a <;> decide
set_option maxHeartbeats 1000000 in
theorem order_any (a b : PCl) (w : World) : Calls Tryz.prog 50 #[clV a, clV b] w fun e w' => e = .returned (.int .i64 (ordC a b)) ∧ Below w.heap.size w w' := by
  obtain ⟨r, hr⟩ : ∃ r, r = ordC a b := ⟨_, rfl⟩
  rw [← hr]
  have HL1 := Lib.hid (fun y => less_any (a.id, a.idx) (b.id, b.idx) y)
  have HL2 := Lib.hid (fun y => less_any (b.id, b.idx) (a.id, a.idx) y)
  unfold ordC ltC at hr
  generalize lessPt (a.id, a.idx) (b.id, b.idx) = q1 at *
  generalize lessPt (b.id, b.idx) (a.id, a.idx) = q2 at *
  unfold clV
  dsimp only at HL1 HL2
  go_enter Tryz.func50, Tryz.ntmps50
  go_upto_region 1 with fail
  obtain ⟨X, hX⟩ : ∃ q, q = w.heap.size := ⟨_, rfl⟩
  have hnews := new2 w X hX (.cells #[.string a.id, .int .u32 a.idx, .int .i64 a.val, .int .i64 a.br, .int .u16 a.lock.tag, .int .u16 a.lock.delay, .int .u32 a.lock.height, .int .i64 a.dead] 34) (.cells #[.string b.id, .int .u32 b.idx, .int .i64 b.val, .int .i64 b.br, .int .u16 b.lock.tag, .int .u16 b.lock.delay, .int .u32 b.lock.height, .int .i64 b.dead] 34)
  rw [← hX]
  generalize ((w.alloc (.cells #[.string a.id, .int .u32 a.idx, .int .i64 a.val, .int .i64 a.br, .int .u16 a.lock.tag, .int .u16 a.lock.delay, .int .u32 a.lock.height, .int .i64 a.dead] 34)).alloc (.cells #[.string b.id, .int .u32 b.idx, .int .i64 b.val, .int .i64 b.br, .int .u16 b.lock.tag, .int .u16 b.lock.delay, .int .u32 b.lock.height, .int .i64 b.dead] 34)) = w0 at *
  obtain ⟨hz0, hz1, hal⟩ := hnews
  have HB0 := Lib.hid hal
  have c0 : w0.cell? ⟨X, 0, none⟩ = some (.string a.id) := cell_at hz0
  have c1 : w0.cell? ⟨X, 1, none⟩ = some (.int .u32 a.idx) := cell_at hz0
  have d0 : w0.cell? ⟨X + 1, 0, none⟩ = some (.string b.id) := cell_at hz1
  have d1 : w0.cell? ⟨X + 1, 1, none⟩ = some (.int .u32 b.idx) := cell_at hz1
  clear hz0 hz1 hal hX
  go_wp2_with fail
  refine (HL1.out w0).mono ?_
  rintro e w1 ⟨rfl, hb⟩
  have HB1 := Lib.hid (HB0.out.trans (hb.mono HB0.out.size))
  replace c0 := below_cells hb _ _ c0
  replace c1 := below_cells hb _ _ c1
  replace d0 := below_cells hb _ _ d0
  replace d1 := below_cells hb _ _ d1
  clear hb HB0 HL1
  cases q1
  · go_wp2_with fail
    refine (HL2.out w1).mono ?_
    rintro e w2 ⟨rfl, hb⟩
    have HB2 := Lib.hid (HB1.out.trans (hb.mono HB1.out.size))
    clear hb
    cases q2
    · go_wp2_with fail
      go_ret
      exact ⟨by rw [hr]; rfl, HB2.out⟩
    · go_wp2_with fail
      go_ret
      exact ⟨by rw [hr]; rfl, HB2.out⟩
  · go_wp2_with fail
    go_ret
    exact ⟨by rw [hr]; rfl, HB1.out⟩

/-! ### insertion sort -/
/-- A claim is written over another one. -/
def put8 (w : World) (b o : Nat) (x : PCl) : World :=
  ((((((((w.setCell ⟨b, o, none⟩ (.string x.id)).setCell ⟨b, o + 1, none⟩ (.int .u32 x.idx)).setCell ⟨b, o + 2, none⟩ (.int .i64 x.val)).setCell ⟨b, o + 3, none⟩ (.int .i64 x.br)).setCell ⟨b, o + 4, none⟩ (.int .u16 x.lock.tag)).setCell ⟨b, o + 5, none⟩ (.int .u16 x.lock.delay)).setCell ⟨b, o + 6, none⟩ (.int .u32 x.lock.height)).setCell ⟨b, o + 7, none⟩ (.int .i64 x.dead))
theorem put8_own {base : Nat} {w : World} {b n c : Nat} {l : List PCl} (h : ClsOwn base w (.slice (some ⟨b, 0, none⟩) n c) l) {i : Nat} {y x : PCl} (hi : l[i]? = some y) (hx : x.Ok) :
    ClsOwn base (put8 w b (i * 8) x) (.slice (some ⟨b, 0, none⟩) n c) (l.set i x) := by
  have hil := (List.getElem?_eq_some_iff.1 hi).1
  have hy := h.ok y (List.mem_of_getElem? hi)
  have at_ : ∀ (l' : List PCl) (z : PCl), i < l'.length → (l'.set i z)[i]? = some z := fun l' z hl => by simp [hl]
  have h0 := h.set hi 0 (.string x.id) (by decide) (x' := ⟨x.id, y.idx, y.val, y.br, y.lock, y.dead⟩) rfl ⟨hx.id, hy.idx, hy.val, hy.br, hy.lock, hy.dead⟩
  have h1 := h0.set (at_ _ _ hil) 1 (.int .u32 x.idx) (by decide) (x' := ⟨x.id, x.idx, y.val, y.br, y.lock, y.dead⟩) rfl ⟨hx.id, hx.idx, hy.val, hy.br, hy.lock, hy.dead⟩
  rw [List.set_set] at h1
  have h2 := h1.set (at_ _ _ hil) 2 (.int .i64 x.val) (by decide) (x' := ⟨x.id, x.idx, x.val, y.br, y.lock, y.dead⟩) rfl ⟨hx.id, hx.idx, hx.val, hy.br, hy.lock, hy.dead⟩
  rw [List.set_set] at h2
  have h3 := h2.set (at_ _ _ hil) 3 (.int .i64 x.br) (by decide) (x' := ⟨x.id, x.idx, x.val, x.br, y.lock, y.dead⟩) rfl ⟨hx.id, hx.idx, hx.val, hx.br, hy.lock, hy.dead⟩
  rw [List.set_set] at h3
  have h4 := h3.set (at_ _ _ hil) 4 (.int .u16 x.lock.tag) (by decide) (x' := ⟨x.id, x.idx, x.val, x.br, ⟨x.lock.tag, y.lock.delay, y.lock.height⟩, y.dead⟩) rfl ⟨hx.id, hx.idx, hx.val, hx.br, ⟨hx.lock.tag, hy.lock.delay, hy.lock.height⟩, hy.dead⟩
  rw [List.set_set] at h4
  have h5 := h4.set (at_ _ _ hil) 5 (.int .u16 x.lock.delay) (by decide) (x' := ⟨x.id, x.idx, x.val, x.br, ⟨x.lock.tag, x.lock.delay, y.lock.height⟩, y.dead⟩) rfl ⟨hx.id, hx.idx, hx.val, hx.br, ⟨hx.lock.tag, hx.lock.delay, hy.lock.height⟩, hy.dead⟩
  rw [List.set_set] at h5
  have h6 := h5.set (at_ _ _ hil) 6 (.int .u32 x.lock.height) (by decide) (x' := ⟨x.id, x.idx, x.val, x.br, x.lock, y.dead⟩) rfl ⟨hx.id, hx.idx, hx.val, hx.br, hx.lock, hy.dead⟩
  rw [List.set_set] at h6
  have h7 := h6.set (at_ _ _ hil) 7 (.int .i64 x.dead) (by decide) (x' := x) rfl hx
  rw [List.set_set] at h7
  exact h7
theorem put8_apart (w : World) (b o : Nat) (x : PCl) {j : Nat} (hj : j < o) {v : Value} (h : w.cell? ⟨b, j, none⟩ = some v) : (put8 w b o x).cell? ⟨b, j, none⟩ = some v := by
  have hne : ∀ k, (⟨b, o + k, none⟩ : Addr) ≠ ⟨b, j, none⟩ := fun k e => by injection e with _ e; omega
  have hne0 : (⟨b, o, none⟩ : Addr) ≠ ⟨b, j, none⟩ := fun e => by injection e with _ e; omega
  unfold put8
  rw [World.cell?_setCell_other _ _ _ _ (hne 7), World.cell?_setCell_other _ _ _ _ (hne 6), World.cell?_setCell_other _ _ _ _ (hne 5), World.cell?_setCell_other _ _ _ _ (hne 4), World.cell?_setCell_other _ _ _ _ (hne 3), World.cell?_setCell_other _ _ _ _ (hne 2), World.cell?_setCell_other _ _ _ _ (hne 1), World.cell?_setCell_other _ _ _ _ hne0]
  exact h
theorem put8_size (w : World) (b o : Nat) (x : PCl) : (put8 w b o x).heap.size = w.heap.size := by simp [put8]
theorem grown_set {w w' : World} {b : Nat} (h : w.grownBy w' (some b)) (o : Nat) (u : Value) : w.grownBy (w'.setCell ⟨b, o, none⟩ u) (some b) :=
  have k := (Below.refl 0 w').setCell (p := ⟨b, o, none⟩) (Nat.zero_le _) u
  ⟨k.os.trans h.os, k.tape.trans h.tape, k.output.trans h.output, Nat.le_trans h.size k.size, fun i hi hne => by rw [Below.heap_setCell _ _ _ _ (fun e => hne (by rw [e]))]; exact h.block i hi hne⟩
theorem grown_put8 {w w' : World} {b : Nat} (h : w.grownBy w' (some b)) (o : Nat) (x : PCl) : w.grownBy (put8 w' b o x) (some b) := by
  unfold put8
  exact grown_set (grown_set (grown_set (grown_set (grown_set (grown_set (grown_set (grown_set h _ _) _ _) _ _) _ _) _ _) _ _) _ _) _ _
theorem grown_bel {w w' w'' : World} {b : Nat} (h : w.grownBy w' (some b)) (hb : Below w'.heap.size w' w'') : w.grownBy w'' (some b) :=
  ⟨hb.os.trans h.os, hb.tape.trans h.tape, hb.output.trans h.output, Nat.le_trans h.size hb.size, fun i hi hne => (hb.block i (Nat.lt_of_lt_of_le hi h.size)).trans (h.block i hi hne)⟩
theorem drew_own {base : Nat} {w : World} {v : Value} {l : List PCl} (h : ClsOwn base w v l) : ClsOwn base w.drew v l := h.kept fun _ _ => rfl
theorem drew_grown {w w' : World} {b : Option Nat} (h : w.grownBy w' b) : w.grownBy w'.drew b := ⟨h.os, h.tape, h.output, h.size, h.block⟩
theorem grown_refl (w : World) (b : Option Nat) : w.grownBy w b := ⟨rfl, rfl, rfl, Nat.le_refl _, fun _ _ _ => rfl⟩
theorem ClsOwn.at {base : Nat} {w : World} {b n c : Nat} {l : List PCl} (h : ClsOwn base w (.slice (some ⟨b, 0, none⟩) n c) l) {i : Nat} {x : PCl} (hi : l[i]? = some x) : ClAt w b (i * 8) x := by
  obtain ⟨a', c', e, -, -⟩ := ownsRow_shape h.row
  have hn : n = l.length := by injection e
  obtain ⟨b', o, y, e1, h1, h2, h3⟩ := h.sl.cl (i := i) (by rw [hn]; exact (List.getElem?_eq_some_iff.1 hi).1)
  rw [hi] at h1
  obtain rfl := Option.some.inj h1
  injection e1 with e1
  injection e1 with e2 e3
  subst e2; subst e3
  rw [Nat.zero_add] at h3
  exact h3
theorem ClsOwn.free {base : Nat} {w : World} {b n c : Nat} {l : List PCl} (h : ClsOwn base w (.slice (some ⟨b, 0, none⟩) n c) l) (j : Nat) : w.frozen? ⟨b, j, none⟩ = false := ownsRow_free h.row j
theorem ClsOwn.lt {base : Nat} {w : World} {b n c : Nat} {l : List PCl} (h : ClsOwn base w (.slice (some ⟨b, 0, none⟩) n c) l) : b < w.heap.size := (h.row.lt b rfl).2
def SortIs (base b n c : Nat) (l : List PCl) (w : World) (e : Ending) (w' : World) : Prop := e = .returned (.tuple #[]) ∧ ClsOwn base w' (.slice (some ⟨b, 0, none⟩) n c) (isort ltC l) ∧ w.grownBy w' (some b)
/-- What the inner loop holds. -/
structure InnerC (l : List PCl) (i k : Nat) (cur : List PCl) : Prop where
  parts : ∃ A B R c, cur = A ++ c :: B ++ R ∧ A.length = k ∧ l[i]? = some c ∧ isort ltC (l.take i) = A ++ B ∧ (∀ b ∈ B, ltC c b = true) ∧ R = l.drop (i + 1)
theorem inner_start {l : List PCl} {i : Nat} {c : PCl} (hc : l[i]? = some c) : InnerC l i i (isort ltC (l.take i) ++ l.drop i) := by
  obtain ⟨hi, rfl⟩ := List.getElem?_eq_some_iff.1 hc
  refine ⟨_, [], _, _, ?_, ?_, hc, (List.append_nil _).symm, by simp, rfl⟩
  · rw [List.drop_eq_getElem_cons hi]; simp
  · rw [(isort_perm (lt := ltC) (l.take i)).length_eq, List.length_take]; omega
theorem inner_end {l : List PCl} {i k : Nat} {cur : List PCl} (h : InnerC l i k cur) (hk : k = 0 ∨ ∃ k' y c, k = k' + 1 ∧ cur[k']? = some y ∧ cur[k]? = some c ∧ ltC c y = false) : cur = isort ltC (l.take (i + 1)) ++ l.drop (i + 1) := by
  obtain ⟨A, B, R, c, rfl, hA, hc, hs, hB, rfl⟩ := h.parts
  have e : l.take (i + 1) = l.take i ++ [c] := by rw [List.take_add_one, hc]; rfl
  rw [e, isort_snoc, hs]
  have hasc : Asc ltC (A ++ B) := hs ▸ isort_asc weakC _
  rw [ins_at weakC c hasc hB]
  intro A' y hA'
  rcases hk with rfl | ⟨k', y', c', rfl, h1, h2, h3⟩
  · rw [List.length_eq_zero_iff.1 hA] at hA'
    simp at hA'
  · subst hA'
    have hk' : A'.length = k' := by simpa using hA
    subst hk'
    have h4 : (A' ++ [y] ++ c :: B ++ l.drop (i + 1))[A'.length]? = some y := by simp
    have h5 : (A' ++ [y] ++ c :: B ++ l.drop (i + 1))[A'.length + 1]? = some c := by simp
    rw [h4] at h1
    rw [h5] at h2
    obtain rfl := Option.some.inj h1
    obtain rfl := Option.some.inj h2
    exact h3
theorem inner_step {l : List PCl} {i k : Nat} {cur : List PCl} {y c : PCl} (h : InnerC l i (k + 1) cur) (h1 : cur[k]? = some y) (h2 : cur[k + 1]? = some c) (h3 : ltC c y = true) : InnerC l i k ((cur.set (k + 1) y).set k c) := by
  obtain ⟨A, B, R, c', rfl, hA, hc, hs, hB, rfl⟩ := h.parts
  rcases List.eq_nil_or_concat A with rfl | ⟨A', y', e⟩
  · simp at hA
  · have e' : A = A' ++ [y'] := by simpa using e
    subst e'
    have hk' : A'.length = k := by simpa using hA
    subst hk'
    have h4 : (A' ++ [y'] ++ c' :: B ++ l.drop (i + 1))[A'.length]? = some y' := by simp
    have h5 : (A' ++ [y'] ++ c' :: B ++ l.drop (i + 1))[A'.length + 1]? = some c' := by simp
    rw [h4] at h1
    rw [h5] at h2
    obtain rfl := Option.some.inj h1
    obtain rfl := Option.some.inj h2
    refine ⟨A', y' :: B, _, c', ?_, rfl, hc, by rw [hs]; simp, fun b hb => ?_, rfl⟩
    · simp
    · rcases List.mem_cons.1 hb with rfl | hb
      · exact h3
      · exact hB b hb
theorem inner_len {l : List PCl} {i k : Nat} {cur : List PCl} (h : InnerC l i k cur) : k ≤ i ∧ cur.length = l.length := by
  obtain ⟨A, B, R, c', rfl, hA, hc, hs, hB, rfl⟩ := h.parts
  have hi := (List.getElem?_eq_some_iff.1 hc).1
  have h1 : (A ++ B).length = i := by rw [← hs, (isort_perm (lt := ltC) (l.take i)).length_eq, List.length_take]; omega
  simp at h1 ⊢
  omega
set_option maxRecDepth 100000 in
set_option maxHeartbeats 4000000 in
theorem insort_any (base b n c : Nat) (l : List PCl) (w : World) (hl : ClsOwn base w (.slice (some ⟨b, 0, none⟩) n c) l) (hn : n = l.length) (hn2 : n ≤ 1000) :
    Calls Tryz.prog 121 #[.slice (some ⟨b, 0, none⟩) n c, .int .i64 0, .int .i64 n, .func (.func 50) #[] #[]] w (SortIs base b n c l w) := by
  have HL := Lib.hid hl
  have HN := Lib.hid hn
  clear hl hn
  go_enter Tryz.func121, Tryz.ntmps121
  go_wp2_with fail
  go_loopg [8] (n - 1) (fun g i wr => ∃ k : Nat, g = n - k ∧ 1 ≤ k ∧ i = .int .i64 k ∧ (k ≤ n ∨ k = 1) ∧ ClsOwn base wr (.slice (some ⟨b, 0, none⟩) n c) (isort ltC (l.take k) ++ l.drop k) ∧ w.grownBy wr (some b))
  case atStart =>
    refine ⟨1, rfl, Nat.le_refl _, rfl, .inr rfl, ?_, grown_refl _ _⟩
    have e : isort ltC (l.take 1) ++ l.drop 1 = l := by
      match l with
      | [] => rfl
      | x :: l' => rfl
    rw [e]; exact HL.out
  case round =>
    rename World => wo
    obtain ⟨k, hgk, hk1, rfl, hk, hown, hgr⟩ := hrel
    have HGK := Lib.hid hgk
    have HOWN := Lib.hid hown
    have HGR := Lib.hid hgr
    clear hgk hown hgr
    by_cases hlt : k < n
    · obtain ⟨cc, hcc⟩ : ∃ cc, l[k]? = some cc := ⟨_, List.getElem?_eq_getElem (by rw [← HN.out]; exact hlt)⟩
      have HIN := Lib.hid (inner_start hcc)
      have HCC := Lib.hid hcc
      clear hcc
      go_wp2_with fail
      go_loopg [9] k (fun g j wr => ∃ (m : Nat) (cur : List PCl), g = m ∧ j = .int .i64 m ∧ InnerC l k m cur ∧ ClsOwn base wr (.slice (some ⟨b, 0, none⟩) n c) cur ∧ w.grownBy wr (some b))
      case atStart => exact ⟨k, _, rfl, rfl, HIN.out, HOWN.out, HGR.out⟩
      case round =>
        rename World => wi
        clear HIN HOWN HGR
        obtain ⟨m, cur, hg, rfl, hin, hown, hgr⟩ := hrel
        have HG := Lib.hid hg
        have HIN := Lib.hid hin
        have HOWN := Lib.hid hown
        have HGR := Lib.hid hgr
        have hlen := inner_len hin
        have hml : m < cur.length := by rw [hlen.2, ← HN.out]; omega
        clear hg hin hown hgr
        by_cases hm : m = 0
        · have HE := Lib.hid (inner_end HIN.out (.inl hm))
          have hm0 : decide (0 < m) = false := decide_eq_false (by omega)
          have HM := Lib.hid hm
          clear hm hlen hml
          go_upto_region 4 with fail
          obtain ⟨C, hC⟩ : ∃ C : World → Prop, C = fun w' => Below wi.heap.size wi w' := ⟨_, rfl⟩
          have HC := Lib.hid hC
          clear hC
          refine wp_region_kin C (by kernel_rfl) (by kernel_rfl) (by rw [HC.out]; exact ⟨rfl, rfl, rfl, Nat.le_refl _, fun _ _ => rfl⟩) ?_
          intro hne
          repeat (first | (go_big_quiet_step (fail)) | (quiet_step (fail)))
          refine wpQuiet_nil ?_
          intro _ hw'
          obtain ⟨kx, hw''⟩ := hw'
          subst hw''
          obtain ⟨w1, hxc⟩ := kx
          rw [HC.out] at hxc
          clear HC hne
          have HO1 := Lib.hid (HOWN.out.below hxc)
          have HG1 := Lib.hid (grown_bel HGR.out hxc)
          clear hxc
          go_wp2_with fail
          go_roundg (n - (k + 1))
          case measure => have := HGK.out; omega
          case rel => exact ⟨k + 1, rfl, by omega, by go_num, .inl (by omega), HE.out ▸ HO1.out, HG1.out⟩
        · obtain ⟨p, hp⟩ : ∃ p, p + 1 = m := ⟨m - 1, by omega⟩
          obtain ⟨x, hx⟩ : ∃ x, cur[m]? = some x := ⟨_, List.getElem?_eq_getElem hml⟩
          obtain ⟨y, hy⟩ : ∃ y, cur[p]? = some y := ⟨_, List.getElem?_eq_getElem (by omega)⟩
          obtain ⟨d0, d1, d2, d3, d4, d5, d6, d7⟩ := HOWN.out.at hx
          obtain ⟨y0, y1, y2, y3, y4, y5, y6, y7⟩ := HOWN.out.at hy
          have hm0 : decide (0 < m) = true := decide_eq_true (by omega)
          have hsub : IntKind.i64.wrap ((m : Int) - 1) = (p : Int) := by rw [IntKind.wrap_i64]; omega
          have hpn : p < n := by omega
          have hmn : m < n := by have := hlen.1; omega
          have HX := Lib.hid hx
          have HY := Lib.hid hy
          have HP := Lib.hid hp
          have HQ := Lib.hid (fun q => order_any x y q)
          have HLT := Lib.hid (ordC_neg x y)
          generalize ordC x y = od at *
          unfold clV at HQ
          clear hm hlen hml hx hy hp
          go_upto_region 4 with fail
          cases hlxy : ltC x y
          · rw [hlxy] at HLT
            have HE := Lib.hid (inner_end HIN.out (.inr ⟨p, y, x, HP.out.symm, HY.out, HX.out, hlxy⟩))
            have hod : decide (od < 0) = false := HLT.out
            clear hlxy
            obtain ⟨C, hC⟩ : ∃ C : World → Prop, C = fun w' => Below wi.heap.size wi w' := ⟨_, rfl⟩
            have kd0 := kin_cell hC d0
            have kd1 := kin_cell hC d1
            have kd2 := kin_cell hC d2
            have kd3 := kin_cell hC d3
            have kd4 := kin_cell hC d4
            have kd5 := kin_cell hC d5
            have kd6 := kin_cell hC d6
            have kd7 := kin_cell hC d7
            have ky0 := kin_cell hC y0
            have ky1 := kin_cell hC y1
            have ky2 := kin_cell hC y2
            have ky3 := kin_cell hC y3
            have ky4 := kin_cell hC y4
            have ky5 := kin_cell hC y5
            have ky6 := kin_cell hC y6
            have ky7 := kin_cell hC y7
            have QNc := Lib.hid (kin_call hC fun y h => HQ.out y)
            have HC := Lib.hid hC
            clear hC
            refine wp_region_kin C (by kernel_rfl) (by kernel_rfl) (by rw [HC.out]; exact ⟨rfl, rfl, rfl, Nat.le_refl _, fun _ _ => rfl⟩) ?_
            intro hne
            repeat (first | (go_big_quiet_step ((rename_i y; go_at_call 50; exact Calls.kin (QNc.out y) (fun w' h => h)))) | (quiet_step ((rename_i y; go_at_call 50; exact Calls.kin (QNc.out y) (fun w' h => h)))))
            refine wpQuiet_nil ?_
            intro _ hw'
            obtain ⟨kx, hw''⟩ := hw'
            subst hw''
            obtain ⟨w1, hxc⟩ := kx
            rw [HC.out] at hxc
            clear HC hne kd0 kd1 kd2 kd3 kd4 kd5 kd6 kd7 ky0 ky1 ky2 ky3 ky4 ky5 ky6 ky7
            have HO1 := Lib.hid (HOWN.out.below hxc)
            have HG1 := Lib.hid (grown_bel HGR.out hxc)
            clear hxc d0 d1 d2 d3 d4 d5 d6 d7 y0 y1 y2 y3 y4 y5 y6 y7
            go_wp2_with fail
            go_roundg (n - (k + 1))
            case measure => have := HGK.out; omega
            case rel => exact ⟨k + 1, rfl, by omega, by go_num, .inl (by omega), HE.out ▸ HO1.out, HG1.out⟩
          · rw [hlxy] at HLT
            have HE := Lib.hid (inner_step (k := p) (HP.out.symm ▸ HIN.out) HY.out (HP.out.symm ▸ HX.out) hlxy)
            have hod : decide (od < 0) = true := HLT.out
            clear hlxy
            obtain ⟨C, hC⟩ : ∃ C : World → Prop, C = fun w' => Below wi.heap.size wi w' := ⟨_, rfl⟩
            have kd0 := kin_cell hC d0
            have kd1 := kin_cell hC d1
            have kd2 := kin_cell hC d2
            have kd3 := kin_cell hC d3
            have kd4 := kin_cell hC d4
            have kd5 := kin_cell hC d5
            have kd6 := kin_cell hC d6
            have kd7 := kin_cell hC d7
            have ky0 := kin_cell hC y0
            have ky1 := kin_cell hC y1
            have ky2 := kin_cell hC y2
            have ky3 := kin_cell hC y3
            have ky4 := kin_cell hC y4
            have ky5 := kin_cell hC y5
            have ky6 := kin_cell hC y6
            have ky7 := kin_cell hC y7
            have QNc := Lib.hid (kin_call hC fun y h => HQ.out y)
            have HC := Lib.hid hC
            clear hC
            refine wp_region_kin C (by kernel_rfl) (by kernel_rfl) (by rw [HC.out]; exact ⟨rfl, rfl, rfl, Nat.le_refl _, fun _ _ => rfl⟩) ?_
            intro hne
            repeat (first | (go_big_quiet_step ((rename_i y; go_at_call 50; exact Calls.kin (QNc.out y) (fun w' h => h)))) | (quiet_step ((rename_i y; go_at_call 50; exact Calls.kin (QNc.out y) (fun w' h => h)))))
            refine wpQuiet_nil ?_
            intro _ hw'
            obtain ⟨kx, hw''⟩ := hw'
            subst hw''
            obtain ⟨w1, hxc⟩ := kx
            rw [HC.out] at hxc
            clear HC hne kd0 kd1 kd2 kd3 kd4 kd5 kd6 kd7 ky0 ky1 ky2 ky3 ky4 ky5 ky6 ky7
            have HO1 := Lib.hid (HOWN.out.below hxc)
            have HG1 := Lib.hid (grown_bel HGR.out hxc)
            replace d0 := below_cells hxc _ _ d0
            replace d1 := below_cells hxc _ _ d1
            replace d2 := below_cells hxc _ _ d2
            replace d3 := below_cells hxc _ _ d3
            replace d4 := below_cells hxc _ _ d4
            replace d5 := below_cells hxc _ _ d5
            replace d6 := below_cells hxc _ _ d6
            replace d7 := below_cells hxc _ _ d7
            replace y0 := below_cells hxc _ _ y0
            replace y1 := below_cells hxc _ _ y1
            replace y2 := below_cells hxc _ _ y2
            replace y3 := below_cells hxc _ _ y3
            replace y4 := below_cells hxc _ _ y4
            replace y5 := below_cells hxc _ _ y5
            replace y6 := below_cells hxc _ _ y6
            replace y7 := below_cells hxc _ _ y7
            have hfr : ∀ o, w1.frozen? ⟨b, o, none⟩ = false := fun o => HO1.out.free o
            have hpm := HP.out
            have g0 := put8_apart w1 b (m * 8) y (by omega) y0
            have g1 := put8_apart w1 b (m * 8) y (by omega) y1
            have g2 := put8_apart w1 b (m * 8) y (by omega) y2
            have g3 := put8_apart w1 b (m * 8) y (by omega) y3
            have g4 := put8_apart w1 b (m * 8) y (by omega) y4
            have g5 := put8_apart w1 b (m * 8) y (by omega) y5
            have g6 := put8_apart w1 b (m * 8) y (by omega) y6
            have g7 := put8_apart w1 b (m * 8) y (by omega) y7
            have HF := Lib.hid (put8_own (put8_own HO1.out HX.out (HO1.out.ok y (List.mem_of_getElem? HY.out))) (show (cur.set m y)[p]? = some y by rw [List.getElem?_set_ne (show m ≠ p by omega)]; exact HY.out) (HO1.out.ok x (List.mem_of_getElem? HX.out)))
            have HGF := Lib.hid (grown_put8 (grown_put8 HG1.out (m * 8) y) (p * 8) x)
            have hfi := drew_own HF.out
            have hgi := drew_grown HGF.out
            unfold put8 at hfi hgi
            have HFI := Lib.hid hfi
            have HGI := Lib.hid hgi
            rw [HP.out] at HE
            unfold put8 at g0 g1 g2 g3 g4 g5 g6 g7
            clear hxc HQ HOWN HIN hpm hfi hgi
            go_upto_region 6 with fail
            go_region
            go_wp2_with fail
            go_roundg p
            case measure => have := HG.out; have := HP.out; omega
            case rel => exact ⟨p, _, rfl, by go_num, HE.out, HFI.out, HGI.out⟩
    · have hkn : n ≤ k := by omega
      have HF := Lib.hid (show SortIs base b n c l w (.returned (.tuple #[])) wo from ⟨rfl, by
        have h := HOWN.out
        rw [List.take_of_length_le (by rw [← HN.out]; exact hkn), List.drop_eq_nil_of_le (by rw [← HN.out]; exact hkn), List.append_nil] at h
        exact h, HGR.out⟩)
      go_wp2_with fail
      exact bodyPost_end (v := .tuple #[]) (by kernel_rfl) rfl HF.out
end Go.Proofs.YtmakghcoehkphaaGreat
