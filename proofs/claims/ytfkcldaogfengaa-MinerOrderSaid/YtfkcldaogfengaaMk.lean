/-
  The document's list of entries: Find, Spender, Hangs. Conditions: the entries lie in memory.
-/
import Derived.Test.YtfkcldaogfengaaMe
namespace Go.Proofs.Ytfkcldaogfengaa
open Go.RowKit Go.BigFrame
set_option linter.unusedVariables false
set_option linter.unusedSimpArgs false

theorem pbytes_ne {a b : ByteArray} (h : a ≠ b) : (a.toList == b.toList) = false := by
  rw [ByteArray.toList_eq, ByteArray.toList_eq, beq_eq_false_iff_ne]
  intro h'
  apply h
  cases a; cases b
  simp at h'
  rw [h']
/-- A place, or one below 0 where there is none. -/
def AtIs (b : Bool) (w : World) (e : Ending) (w' : World) : Prop := ∃ r : Int, e = .returned (.int .i64 r) ∧ (0 ≤ r ↔ b = true) ∧ Below w.heap.size w w'
set_option maxRecDepth 100000 in
set_option maxHeartbeats 2000000 in
theorem find14_any (sl : Value) (l : List PE) (id : ByteArray) (w : World) (hsl : SlAt rpE w sl l) : Calls Try.prog 35 #[sl, .string id] w (AtIs (l.any fun x => decide (x.id = id)) w) := by
  have HSL := Lib.hid hsl
  obtain ⟨a, c, rfl, hl1, hl2⟩ := hsl.shape
  rw [maxLen_eq] at hl2
  obtain ⟨n, hn⟩ : ∃ n, n = l.length := ⟨_, rfl⟩
  rw [← hn] at hl1 HSL ⊢
  have HN := Lib.hid hn
  clear hn hsl
  go_enter Try.func35, Try.ntmps35
  go_wp2_with fail
  go_loopg [5] n (fun g i wr => ∃ k : Nat, g = n - k ∧ k ≤ n ∧ i = .int .i64 k ∧ Below w.heap.size w wr ∧ ∀ (j : Nat) (y : PE), j < k → l[j]? = some y → decide (y.id = id) = false)
  case atStart => exact ⟨0, rfl, by omega, rfl, Below.refl _ _, fun j y hj => absurd hj (Nat.not_lt_zero _)⟩
  case round =>
    rename World => wo
    obtain ⟨k, hgk, hk, rfl, hb, hno⟩ := hrel
    have HGK := Lib.hid hgk
    have HNO := Lib.hid hno
    have HB := Lib.hid hb
    clear hgk hno hb
    by_cases hlt : k < n
    · obtain ⟨sb, so, x, ia, ni, ic, oa, no, oc, rfl, hx, -, -, d0, d1, d2, d3, d4, d5, d6⟩ := (HSL.out.below HB.out).ent hlt
      have HX := Lib.hid hx
      clear hx d0 d1 d2 d3 d5 d6
      by_cases hid : x.id = id
      · have HF := Lib.hid (show (l.any fun x => decide (x.id = id)) = true from List.any_eq_true.2 ⟨x, List.mem_of_getElem? HX.out, decide_eq_true hid⟩)
        have hbe : (x.id.toList == id.toList) = true := by rw [hid]; exact beq_self_eq_true _
        go_wp2_with fail
        go_ret
        exact ⟨_, rfl, ⟨fun _ => HF.out, fun _ => by omega⟩, HB.out⟩
      · have HNX := Lib.hid (before_step HNO.out HX.out (decide_eq_false hid))
        have hbe := pbytes_ne hid
        go_wp2_with fail
        go_roundg (n - (k + 1))
        case measure => have := HGK.out; omega
        case rel => exact ⟨k + 1, rfl, by omega, by go_num, HB.out, HNX.out⟩
    · obtain rfl : k = n := by omega
      have HF := Lib.hid (show (l.any fun x => decide (x.id = id)) = false by
        rw [List.any_eq_false]
        intro y hy
        obtain ⟨j, hj, rfl⟩ := List.getElem_of_mem hy
        have := HNO.out j _ (by rw [HN.out]; exact hj) (List.getElem?_eq_getElem hj)
        rw [this]; decide)
      go_wp2_with fail
      go_ret
      exact ⟨-1, rfl, ⟨fun h => absurd h (by decide), fun h => by rw [HF.out] at h; cases h⟩, HB.out⟩
def spentI (p : ByteArray × Nat) (i : PIn) : Bool := decide (i.id = p.1) && decide (i.idx = p.2)
theorem any_not {α : Type} {p : α → Bool} {xs : List α} {n : Nat} (hn : n = xs.length) (h : ∀ (j : Nat) (y : α), j < n → xs[j]? = some y → p y = false) : xs.any p = false := by
  rw [List.any_eq_false]
  intro y hy
  obtain ⟨j, hj, rfl⟩ := List.getElem_of_mem hy
  rw [h j _ (by omega) (List.getElem?_eq_getElem hj)]
  decide
set_option maxRecDepth 100000 in
set_option maxHeartbeats 2000000 in
theorem spender_any (sl : Value) (l : List PE) (p : ByteArray × Nat) (w : World) (hsl : SlAt rpE w sl l) (hp : p.2 < 4294967296) : Calls Try.prog 36 #[sl, .agg #[.string p.1, .int .u32 p.2]] w (AtIs (l.any fun x => x.tx.ins.any (spentI p)) w) := by
  have HSL := Lib.hid hsl
  obtain ⟨a, c, rfl, hl1, hl2⟩ := hsl.shape
  rw [maxLen_eq] at hl2
  obtain ⟨n, hn⟩ : ∃ n, n = l.length := ⟨_, rfl⟩
  rw [← hn] at hl1 HSL ⊢
  have HN := Lib.hid hn
  clear hn hsl
  go_enter Try.func36, Try.ntmps36
  go_upto_region 1 with fail
  have hz := heap_alloc_new w (.cells #[.string p.1, .int .u32 p.2] 63)
  have hal : Below w.heap.size w (w.alloc (.cells #[.string p.1, .int .u32 p.2] 63)) := (Below.refl _ _).alloc (Nat.le_refl _) _
  obtain ⟨X, hX⟩ : ∃ q, q = w.heap.size := ⟨_, rfl⟩
  rw [← hX] at hz ⊢
  generalize w.alloc (.cells #[.string p.1, .int .u32 p.2] 63) = w0 at *
  have HZ0 := Lib.hid hz
  have HB := Lib.hid hal
  clear hz hal hX
  go_wp2_with fail
  go_loopg [5] n (fun g i wr => ∃ k : Nat, g = n - k ∧ k ≤ n ∧ i = .int .i64 k ∧ Below w.heap.size w wr ∧ wr.heap[X]? = some (.cells #[.string p.1, .int .u32 p.2] 63 (0, 0)) ∧ ∀ (j : Nat) (y : PE), j < k → l[j]? = some y → y.tx.ins.any (spentI p) = false)
  case atStart => exact ⟨0, rfl, by omega, rfl, HB.out, HZ0.out, fun j y hj => absurd hj (Nat.not_lt_zero _)⟩
  case round =>
    clear HB HZ0
    rename World => wo
    obtain ⟨k, hgk, hk, rfl, hb, hz0, hno⟩ := hrel
    have HGK := Lib.hid hgk
    have HNO := Lib.hid hno
    have HB := Lib.hid hb
    have HZ0 := Lib.hid hz0
    clear hgk hno hb hz0
    by_cases hlt : k < n
    · obtain ⟨sb, so, x, ia, ni, ic, oa, no, oc, rfl, hx, hxe, hnl, -, d1, -⟩ := HSL.out.ent hlt
      have HX := Lib.hid hx
      have HXE := Lib.hid hxe
      have HNI := Lib.hid hnl.1
      have HD1 := Lib.hid d1
      have hi12 : ni ≤ ic ∧ ic ≤ 9223372036854775807 := by
        obtain ⟨a', c', e, h1, h2⟩ := hxe.ins.shape
        rw [maxLen_eq] at h2
        obtain ⟨rfl, rfl, rfl⟩ : ia = a' ∧ ni = x.tx.ins.length ∧ ic = c' := by simpa using e
        exact ⟨h1, h2⟩
      obtain ⟨hi1, hi2⟩ := hi12
      replace d1 := below_cells HB.out _ _ d1
      clear hx hxe hnl
      go_wp2_with fail
      go_loopg [6] ni (fun g i wr => ∃ j : Nat, g = ni - j ∧ j ≤ ni ∧ i = .int .i64 j ∧ Below w.heap.size w wr ∧ wr.heap[X]? = some (.cells #[.string p.1, .int .u32 p.2] 63 (0, 0)) ∧ ∀ (q : Nat) (y : PIn), q < j → x.tx.ins[q]? = some y → spentI p y = false)
      case atStart => exact ⟨0, rfl, by omega, rfl, HB.out, HZ0.out, fun j y hj => absurd hj (Nat.not_lt_zero _)⟩
      case round =>
        clear HB HZ0 d1
        rename World => wp
        obtain ⟨j, hgj, hj, rfl, hb, hz0, hnq⟩ := hrel
        have HGJ := Lib.hid hgj
        have HNQ := Lib.hid hnq
        have HB := Lib.hid hb
        have HZ0 := Lib.hid hz0
        have d1 := below_cells hb _ _ HD1.out
        have p0 : wp.cell? ⟨X, 0, none⟩ = some (.string p.1) := cell_at hz0
        have p1 : wp.cell? ⟨X, 1, none⟩ = some (.int .u32 p.2) := cell_at hz0
        clear hgj hnq hb hz0
        by_cases hjn : j < ni
        · obtain ⟨ib, io, y, yv, rfl, hy, -, hyi, -, -, i0, i1, -, -⟩ := (HXE.out.ins.below HB.out).inp hjn
          have HY := Lib.hid hy
          clear hy
          go_upto_region 7 with fail
          go_cut [53] (fun s wx => s = .bool (spentI p y) ∧ Below wp.heap.size wp wx)
          case first =>
            by_cases h1 : y.id = p.1
            · have hbe : (y.id.toList == p.1.toList) = true := by rw [h1]; exact beq_self_eq_true _
              obtain ⟨r, hr⟩ : ∃ r, r = decide (y.idx = p.2) := ⟨_, rfl⟩
              have HR := Lib.hid (show spentI p y = r by unfold spentI; rw [decide_eq_true h1, hr]; rfl)
              by_cases h2 : y.idx = p.2
              · have hie : (y.idx : Int) = (p.2 : Int) := by rw [h2]
                obtain rfl : r = true := by rw [hr, decide_eq_true h2]
                clear hr h1 h2
                obtain ⟨C, hC⟩ : ∃ C : World → Prop, C = fun w' => Below wp.heap.size wp w' := ⟨_, rfl⟩
                have kd1 := kin_cell hC d1
                have kp0 := kin_cell hC p0
                have kp1 := kin_cell hC p1
                have ki0 := kin_cell hC i0
                have ki1 := kin_cell hC i1
                have HC := Lib.hid hC
                clear hC
                refine wp_region_kin C (by kernel_rfl) (by kernel_rfl) (by rw [HC.out]; exact ⟨rfl, rfl, rfl, Nat.le_refl _, fun _ _ => rfl⟩) ?_
                intro hne
                repeat (first | (go_big_quiet_step (fail)) | (quiet_step (fail)))
                refine wpQuiet_nil ?_
                intro _ hw'
                obtain ⟨kx, hw''⟩ := hw'
                subst hw''
                obtain ⟨w1, hxc⟩ := kx
                rw [HC.out] at hxc
                clear HC hne kd1 kp0 kp1 ki0 ki1
                go_wp2_with fail
                go_meet
                exact ⟨by rw [HR.out] <;> rfl, hxc⟩
              · have hie : ((y.idx : Int) == (p.2 : Int)) = false := by rw [beq_eq_false_iff_ne]; omega
                obtain rfl : r = false := by rw [hr, decide_eq_false h2]
                clear hr h1 h2
                obtain ⟨C, hC⟩ : ∃ C : World → Prop, C = fun w' => Below wp.heap.size wp w' := ⟨_, rfl⟩
                have kd1 := kin_cell hC d1
                have kp0 := kin_cell hC p0
                have kp1 := kin_cell hC p1
                have ki0 := kin_cell hC i0
                have ki1 := kin_cell hC i1
                have HC := Lib.hid hC
                clear hC
                refine wp_region_kin C (by kernel_rfl) (by kernel_rfl) (by rw [HC.out]; exact ⟨rfl, rfl, rfl, Nat.le_refl _, fun _ _ => rfl⟩) ?_
                intro hne
                repeat (first | (go_big_quiet_step (fail)) | (quiet_step (fail)))
                refine wpQuiet_nil ?_
                intro _ hw'
                obtain ⟨kx, hw''⟩ := hw'
                subst hw''
                obtain ⟨w1, hxc⟩ := kx
                rw [HC.out] at hxc
                clear HC hne kd1 kp0 kp1 ki0 ki1
                go_wp2_with fail
                go_meet
                exact ⟨by rw [HR.out] <;> rfl, hxc⟩
            · have hbe := pbytes_ne h1
              have HR := Lib.hid (show spentI p y = false by unfold spentI; rw [decide_eq_false h1]; rfl)
              clear h1
              obtain ⟨C, hC⟩ : ∃ C : World → Prop, C = fun w' => Below wp.heap.size wp w' := ⟨_, rfl⟩
              have kd1 := kin_cell hC d1
              have kp0 := kin_cell hC p0
              have kp1 := kin_cell hC p1
              have ki0 := kin_cell hC i0
              have ki1 := kin_cell hC i1
              have HC := Lib.hid hC
              clear hC
              refine wp_region_kin C (by kernel_rfl) (by kernel_rfl) (by rw [HC.out]; exact ⟨rfl, rfl, rfl, Nat.le_refl _, fun _ _ => rfl⟩) ?_
              intro hne
              repeat (first | (go_big_quiet_step (fail)) | (quiet_step (fail)))
              refine wpQuiet_nil ?_
              intro _ hw'
              obtain ⟨kx, hw''⟩ := hw'
              subst hw''
              obtain ⟨w1, hxc⟩ := kx
              rw [HC.out] at hxc
              clear HC hne kd1 kp0 kp1 ki0 ki1
              go_wp2_with fail
              go_meet
              exact ⟨by rw [HR.out] <;> rfl, hxc⟩
          case rest =>
            obtain ⟨rfl, hxc⟩ := hcut
            rename World => w1
            have HB1 := Lib.hid (HB.out.trans (hxc.mono HB.out.size))
            have HZ1 := Lib.hid (stay HZ0.out hxc)
            clear hxc d1 p0 p1 i0 i1
            obtain ⟨r, hr⟩ : ∃ r, r = spentI p y := ⟨_, rfl⟩
            rw [← hr]
            have HR := Lib.hid hr
            clear hr
            cases r
            · have HNX := Lib.hid (before_step HNQ.out HY.out HR.out.symm)
              go_wp2_with fail
              go_roundg (ni - (j + 1))
              case measure => have := HGJ.out; omega
              case rel => exact ⟨j + 1, rfl, by omega, by go_num, HB1.out, HZ1.out, HNX.out⟩
            · have HF := Lib.hid (show (l.any fun x => x.tx.ins.any (spentI p)) = true from List.any_eq_true.2 ⟨x, List.mem_of_getElem? HX.out, List.any_eq_true.2 ⟨y, List.mem_of_getElem? HY.out, HR.out.symm⟩⟩)
              go_wp2_with fail
              go_ret
              exact ⟨_, rfl, ⟨fun _ => HF.out, fun _ => by omega⟩, HB1.out⟩
        · obtain rfl : j = ni := by omega
          have HNX := Lib.hid (before_step HNO.out HX.out (any_not HNI.out HNQ.out))
          go_wp2_with fail
          go_roundg (n - (k + 1))
          case measure => have := HGK.out; omega
          case rel => exact ⟨k + 1, rfl, by omega, by go_num, HB.out, HZ0.out, HNX.out⟩
    · obtain rfl : k = n := by omega
      have HF := Lib.hid (any_not HN.out HNO.out)
      go_wp2_with fail
      go_ret
      exact ⟨-1, rfl, ⟨fun h => absurd h (by decide), fun h => by rw [HF.out] at h; cases h⟩, HB.out⟩
set_option maxRecDepth 100000 in
set_option maxHeartbeats 2000000 in
theorem hangs14_any (t : PTx) (x : PE) (v va vb : Value) (w : World) (ht : TxAt w v t) (hx : EntAt w va vb x) :
    Calls Try.prog 16 #[v, .agg #[.int .u32 x.tx.ver, va, vb, .int .u32 x.tx.lock, .string x.id, .int .i64 x.fee, .int .i64 x.size]] w (fun e w' => e = .returned (.bool (hangsB t x)) ∧ Below w.heap.size w w') := by
  obtain ⟨ta, tb, rfl, ht1, ht2, ht3, ht4⟩ := ht
  obtain ⟨a1, c1, rfl, hi1, hi2⟩ := ht1.shape
  obtain ⟨a2, c2, rfl, -, -⟩ := ht2.shape
  obtain ⟨a3, c3, rfl, -, -⟩ := hx.ins.shape
  obtain ⟨a4, c4, rfl, -, -⟩ := hx.outs.shape
  rw [maxLen_eq] at hi2
  obtain ⟨n, hn⟩ : ∃ n, n = t.ins.length := ⟨_, rfl⟩
  obtain ⟨no, hno⟩ : ∃ n, n = x.tx.outs.length := ⟨_, rfl⟩
  rw [← hn] at hi1 ht1 ⊢
  rw [← hno]
  have HN := Lib.hid hn
  have HNO := Lib.hid hno
  have HIN := Lib.hid ht1
  clear hn hno ht1 ht2 hx
  go_enter Try.func16, Try.ntmps16
  go_upto_region 1 with fail
  obtain ⟨X, hX⟩ : ∃ q, q = w.heap.size := ⟨_, rfl⟩
  have hnews := new2 w X hX (.cells #[.int .u32 t.ver, .slice a1 n c1, .slice a2 t.outs.length c2, .int .u32 t.lock] 41) (.cells #[.int .u32 x.tx.ver, .slice a3 x.tx.ins.length c3, .slice a4 no c4, .int .u32 x.tx.lock, .string x.id, .int .i64 x.fee, .int .i64 x.size] 43)
  rw [← hX]
  generalize ((w.alloc (.cells #[.int .u32 t.ver, .slice a1 n c1, .slice a2 t.outs.length c2, .int .u32 t.lock] 41)).alloc (.cells #[.int .u32 x.tx.ver, .slice a3 x.tx.ins.length c3, .slice a4 no c4, .int .u32 x.tx.lock, .string x.id, .int .i64 x.fee, .int .i64 x.size] 43)) = w0 at *
  obtain ⟨hz0, hz1, hal⟩ := hnews
  have HZ0 := Lib.hid hz0
  have HZ1 := Lib.hid hz1
  have HB := Lib.hid hal
  have c1' : w0.cell? ⟨X, 1, none⟩ = some (.slice a1 n c1) := cell_at hz0
  clear hz0 hz1 hal hX
  go_wp2_with fail
  go_loopg [5] n (fun g i wr => ∃ k : Nat, g = n - k ∧ k ≤ n ∧ i = .int .i64 k ∧ Below w.heap.size w wr ∧ wr.heap[X]? = some (.cells #[.int .u32 t.ver, .slice a1 n c1, .slice a2 t.outs.length c2, .int .u32 t.lock] 41 (0, 0)) ∧ wr.heap[X + 1]? = some (.cells #[.int .u32 x.tx.ver, .slice a3 x.tx.ins.length c3, .slice a4 no c4, .int .u32 x.tx.lock, .string x.id, .int .i64 x.fee, .int .i64 x.size] 43 (0, 0)) ∧ ∀ (j : Nat) (y : PIn), j < k → t.ins[j]? = some y → hangsI x y = false)
  case atStart => exact ⟨0, rfl, by omega, rfl, HB.out, HZ0.out, HZ1.out, fun j y hj => absurd hj (Nat.not_lt_zero _)⟩
  case round =>
    clear HB HZ0 HZ1 c1'
    rename World => wo
    obtain ⟨k, hgk, hk, rfl, hb, hz0, hz1, hnq⟩ := hrel
    have HGK := Lib.hid hgk
    have HNQ := Lib.hid hnq
    have HB := Lib.hid hb
    have HZ0 := Lib.hid hz0
    have HZ1 := Lib.hid hz1
    have d1 : wo.cell? ⟨X, 1, none⟩ = some (.slice a1 n c1) := cell_at hz0
    have p0 : wo.cell? ⟨X + 1, 4, none⟩ = some (.string x.id) := cell_at hz1
    have p1 : wo.cell? ⟨X + 1, 2, none⟩ = some (.slice a4 no c4) := cell_at hz1
    clear hgk hnq hb hz0 hz1
    by_cases hlt : k < n
    · obtain ⟨ib, io, y, yv, rfl, hy, -, hyi, -, -, i0, i1, -, -⟩ := (HIN.out.below HB.out).inp hlt
      have HY := Lib.hid hy
      clear hy
      go_upto_region 4 with fail
      go_cut [37] (fun s wx => s = .bool (hangsI x y) ∧ Below wo.heap.size wo wx)
      case first =>
        by_cases h1 : y.id = x.id
        · have hbe : (y.id.toList == x.id.toList) = true := by rw [h1]; exact beq_self_eq_true _
          obtain ⟨r, hr⟩ : ∃ r, r = decide (y.idx < no) := ⟨_, rfl⟩
          have HR := Lib.hid (show hangsI x y = r by unfold hangsI; rw [decide_eq_true h1, hr, HNO.out]; rfl)
          by_cases h2 : y.idx < no
          · have hie : (y.idx : Int) < (no : Int) := by omega
            obtain rfl : r = true := by rw [hr, decide_eq_true h2]
            clear hr h1 h2
            obtain ⟨C, hC⟩ : ∃ C : World → Prop, C = fun w' => Below wo.heap.size wo w' := ⟨_, rfl⟩
            have kd1 := kin_cell hC d1
            have kp0 := kin_cell hC p0
            have kp1 := kin_cell hC p1
            have ki0 := kin_cell hC i0
            have ki1 := kin_cell hC i1
            have HC := Lib.hid hC
            clear hC
            refine wp_region_kin C (by kernel_rfl) (by kernel_rfl) (by rw [HC.out]; exact ⟨rfl, rfl, rfl, Nat.le_refl _, fun _ _ => rfl⟩) ?_
            intro hne
            repeat (first | (go_big_quiet_step (fail)) | (quiet_step (fail)))
            refine wpQuiet_nil ?_
            intro _ hw'
            obtain ⟨kx, hw''⟩ := hw'
            subst hw''
            obtain ⟨w1, hxc⟩ := kx
            rw [HC.out] at hxc
            clear HC hne kd1 kp0 kp1 ki0 ki1
            go_wp2_with fail
            go_meet
            exact ⟨by rw [HR.out] <;> rfl, hxc⟩
          · have hie : ¬ ((y.idx : Int) < (no : Int)) := by omega
            obtain rfl : r = false := by rw [hr, decide_eq_false h2]
            clear hr h1 h2
            obtain ⟨C, hC⟩ : ∃ C : World → Prop, C = fun w' => Below wo.heap.size wo w' := ⟨_, rfl⟩
            have kd1 := kin_cell hC d1
            have kp0 := kin_cell hC p0
            have kp1 := kin_cell hC p1
            have ki0 := kin_cell hC i0
            have ki1 := kin_cell hC i1
            have HC := Lib.hid hC
            clear hC
            refine wp_region_kin C (by kernel_rfl) (by kernel_rfl) (by rw [HC.out]; exact ⟨rfl, rfl, rfl, Nat.le_refl _, fun _ _ => rfl⟩) ?_
            intro hne
            repeat (first | (go_big_quiet_step (fail)) | (quiet_step (fail)))
            refine wpQuiet_nil ?_
            intro _ hw'
            obtain ⟨kx, hw''⟩ := hw'
            subst hw''
            obtain ⟨w1, hxc⟩ := kx
            rw [HC.out] at hxc
            clear HC hne kd1 kp0 kp1 ki0 ki1
            go_wp2_with fail
            go_meet
            exact ⟨by rw [HR.out] <;> rfl, hxc⟩
        · have hbe := pbytes_ne h1
          have HR := Lib.hid (show hangsI x y = false by unfold hangsI; rw [decide_eq_false h1]; rfl)
          clear h1
          obtain ⟨C, hC⟩ : ∃ C : World → Prop, C = fun w' => Below wo.heap.size wo w' := ⟨_, rfl⟩
          have kd1 := kin_cell hC d1
          have kp0 := kin_cell hC p0
          have kp1 := kin_cell hC p1
          have ki0 := kin_cell hC i0
          have ki1 := kin_cell hC i1
          have HC := Lib.hid hC
          clear hC
          refine wp_region_kin C (by kernel_rfl) (by kernel_rfl) (by rw [HC.out]; exact ⟨rfl, rfl, rfl, Nat.le_refl _, fun _ _ => rfl⟩) ?_
          intro hne
          repeat (first | (go_big_quiet_step (fail)) | (quiet_step (fail)))
          refine wpQuiet_nil ?_
          intro _ hw'
          obtain ⟨kx, hw''⟩ := hw'
          subst hw''
          obtain ⟨w1, hxc⟩ := kx
          rw [HC.out] at hxc
          clear HC hne kd1 kp0 kp1 ki0 ki1
          go_wp2_with fail
          go_meet
          exact ⟨by rw [HR.out] <;> rfl, hxc⟩
      case rest =>
        obtain ⟨rfl, hxc⟩ := hcut
        rename World => w1
        have HB1 := Lib.hid (HB.out.trans (hxc.mono HB.out.size))
        have HZ2 := Lib.hid (stay HZ0.out hxc)
        have HZ3 := Lib.hid (stay HZ1.out hxc)
        clear hxc d1 p0 p1 i0 i1
        obtain ⟨r, hr⟩ : ∃ r, r = hangsI x y := ⟨_, rfl⟩
        rw [← hr]
        have HR := Lib.hid hr
        clear hr
        cases r
        · have HNX := Lib.hid (before_step HNQ.out HY.out HR.out.symm)
          go_wp2_with fail
          go_roundg (n - (k + 1))
          case measure => have := HGK.out; omega
          case rel => exact ⟨k + 1, rfl, by omega, by go_num, HB1.out, HZ2.out, HZ3.out, HNX.out⟩
        · have HF := Lib.hid (show hangsB t x = true from List.any_eq_true.2 ⟨y, List.mem_of_getElem? HY.out, HR.out.symm⟩)
          go_wp2_with fail
          go_ret
          exact ⟨ret_bool HF.out.symm, HB1.out⟩
    · obtain rfl : k = n := by omega
      have HF := Lib.hid (show hangsB t x = false from any_not HN.out HNQ.out)
      go_wp2_with fail
      go_ret
      exact ⟨ret_bool HF.out.symm, HB.out⟩
end Go.Proofs.Ytfkcldaogfengaa
