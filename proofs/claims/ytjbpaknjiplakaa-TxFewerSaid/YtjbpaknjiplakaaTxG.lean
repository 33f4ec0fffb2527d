/-
  tx.Base, tx.Less. Conditions: none beyond each theorem's own.
-/
import Derived.Test.YtjbpaknjiplakaaTxN
import Derived.Deep.RegionHeld
import Derived.Deep.DrawnRows
namespace Go.Proofs.Ytjbpaknjiplakaa
open Go.RowKit Go.BigFrame
set_option linter.unusedVariables false
set_option linter.unusedSimpArgs false

def baseOf (t : PTx) : Bool := match t.ins with
  | [x] => isBase x.id x.idx
  | _ => false
theorem baseOf_one {t : PTx} {x : PIn} (h1 : t.ins.length = 1) (hx : t.ins[0]? = some x) : baseOf t = isBase x.id x.idx := by
  obtain ⟨ver, ins, outs, lock⟩ := t
  match ins, h1, hx with
  | [y], _, hx => obtain rfl := Option.some.inj hx; rfl
theorem baseOf_not {t : PTx} (h1 : t.ins.length ≠ 1) : baseOf t = false := by
  obtain ⟨ver, ins, outs, lock⟩ := t
  match ins, h1 with
  | [], _ => rfl
  | [y], h => exact absurd rfl h
  | _ :: _ :: _, _ => rfl

set_option maxRecDepth 100000 in
set_option maxHeartbeats 2000000 in
theorem base_tx (v : Value) (t : PTx) (w : World) (hv : TxAt w v t) : Calls Try.prog 15 #[v] w (BIs (baseOf t) w) := by
  obtain ⟨va, vo, rfl, hia, hob, -, -⟩ := hv
  obtain ⟨a, c, rfl, hl1, hl2⟩ := hia.shape
  rw [maxLen_eq] at hl2
  have htb := TB.start hia hob
  have HTB := Lib.hid htb
  clear htb hia hob
  obtain ⟨r, hr⟩ : ∃ r, r = baseOf t := ⟨_, rfl⟩
  rw [← hr]
  have HR := Lib.hid hr
  clear hr
  obtain ⟨n, hn⟩ : ∃ n, n = t.ins.length := ⟨_, rfl⟩
  rw [← hn] at hl1 HTB ⊢
  have HN := Lib.hid hn
  clear hn
  go_enter Try.func15, Try.ntmps15
  go_upto_region 1 with fail
  generalize w.alloc (.cells #[.int .u32 t.ver, .slice a n c, vo, .int .u32 t.lock] 26) = w0 at *
  have c1 : w0.cell? ⟨w.heap.size, 1, none⟩ = some (.slice a n c) := cell_at HTB.out.box
  obtain ⟨C, hC⟩ : ∃ C : World → Prop, C = fun w' => Below w0.heap.size w0 w' := ⟨_, rfl⟩
  have k2 : ∀ y : Kin C, y.w.cell? ⟨w.heap.size, 1, none⟩ = some (.slice a n c) := by
    intro ⟨y, h⟩; subst hC; exact below_cells h _ _ c1
  by_cases h1 : n = 1
  · subst h1
    obtain ⟨b, o, x, wv, rfl, hx, hseq, hidx, hid, hwv, d0, d1, d2, d3⟩ := HTB.out.ins.inp (show 0 < 1 by omega)
    have k0 : ∀ y : Kin C, y.w.cell? ⟨b, o, none⟩ = some (.string x.id) := by
      intro ⟨y, h⟩; subst hC; exact below_cells h _ _ d0
    have k1 : ∀ y : Kin C, y.w.cell? ⟨b, o + 1, none⟩ = some (.int .u32 x.idx) := by
      intro ⟨y, h⟩; subst hC; exact below_cells h _ _ d1
    have hqb : ∀ y : Kin C, Calls Try.prog 33 #[] y.w fun e w' => e = .returned (.agg #[.string zeros32, .int .u32 4294967295]) ∧ C w' := by
      intro y
      refine (base_any y.w).mono ?_
      rintro e w' ⟨rfl, hb⟩
      obtain ⟨y, h⟩ := y
      subst hC
      exact ⟨rfl, h.trans (hb.mono h.size)⟩
    have HQB := Lib.hid hqb
    have HC := Lib.hid hC
    have HX := Lib.hid (baseOf_one HN.out.symm hx)
    have hgp := guardPt
    have heq : ∀ w : World, (Op.equalIn 10000 40 (.agg #[.string x.id, .int .u32 x.idx]) (.agg #[.string zeros32, .int .u32 4294967295])).run Try.prog w = .ok (isBase x.id x.idx) w := fun w => eqIn_base x.id x.idx w
    generalize isBase x.id x.idx = bb at *
    clear hC hqb hx hwv d0 d1 d2 d3
    refine wp_region_kin C (by kernel_rfl) (by kernel_rfl) (by rw [HC.out]; exact ⟨rfl, rfl, rfl, Nat.le_refl _, fun _ _ => rfl⟩) ?_
    intro hne
    repeat (first | (go_big_quiet_step (first | (rename_i y; go_at_call 33; exact Calls.kin (HQB.out y) (fun w' h => h)))) | (quiet_step (first | (rename_i y; go_at_call 33; exact Calls.kin (HQB.out y) (fun w' h => h)))))
    refine wpQuiet_nil ?_
    intro _ hw'
    obtain ⟨kx, hw''⟩ := hw'
    subst hw''
    obtain ⟨wy, hxc⟩ := kx
    rw [HC.out] at hxc
    have HTY := Lib.hid (HTB.out.next hxc)
    clear hxc k0 k1 k2
    go_wp2_with fail
    go_ret
    exact ⟨ret_bool (by rw [HR.out, HX.out]), HTY.out.bel⟩
  · have HF := Lib.hid (baseOf_not (t := t) (by rw [← HN.out]; exact h1))
    have h1i : (n : Int) ≠ 1 := by omega
    have HC := Lib.hid hC
    clear hC
    refine wp_region_kin C (by kernel_rfl) (by kernel_rfl) (by rw [HC.out]; exact ⟨rfl, rfl, rfl, Nat.le_refl _, fun _ _ => rfl⟩) ?_
    intro hne
    repeat (first | (go_big_quiet_step (fail)) | (quiet_step (fail)))
    refine wpQuiet_nil ?_
    intro _ hw'
    obtain ⟨kx, hw''⟩ := hw'
    subst hw''
    obtain ⟨wy, hxc⟩ := kx
    rw [HC.out] at hxc
    have HTY := Lib.hid (HTB.out.next hxc)
    clear hxc k2
    go_wp2_with fail
    go_ret
    exact ⟨ret_bool (by rw [HR.out, HF.out]), HTY.out.bel⟩

def cmpN (a b : Nat) : Int := if a < b then -1 else if b < a then 1 else 0
set_option maxRecDepth 100000 in
set_option maxHeartbeats 1000000 in
theorem nan_any (a : Nat) (w : World) : Calls Try.prog 57 #[.int .u32 a] w fun e w' => e = .returned (.bool false) ∧ w = w' := by
  go_enter Try.func57, Try.ntmps57
  go_wp2
  go_ret
  exact ⟨ret_bool (by simp), rfl⟩
set_option maxRecDepth 100000 in
set_option maxHeartbeats 1000000 in
theorem cmp_any (a b : Nat) (w : World) : Calls Try.prog 39 #[.int .u32 a, .int .u32 b] w fun e w' => e = .returned (.int .i64 (cmpN a b)) ∧ w = w' := by
  obtain ⟨r, hr⟩ : ∃ r, r = cmpN a b := ⟨_, rfl⟩
  rw [← hr]
  have HR := Lib.hid hr
  have HA := Lib.hid (nan_any a w)
  have HB := Lib.hid (nan_any b w)
  clear hr
  go_enter Try.func39, Try.ntmps39
  by_cases h1 : a < b
  · have HE := Lib.hid (show cmpN a b = -1 by unfold cmpN; rw [if_pos h1])
    go_wp2_with fail
    refine HA.out.mono ?_
    rintro e w' ⟨rfl, rfl⟩
    go_wp2_with fail
    refine HB.out.mono ?_
    rintro e w' ⟨rfl, rfl⟩
    go_wp2_with fail
    go_ret
    exact ⟨by rw [HR.out, HE.out]; rfl, rfl⟩
  · by_cases h2 : b < a
    · have HE := Lib.hid (show cmpN a b = 1 by unfold cmpN; rw [if_neg h1, if_pos h2])
      go_wp2_with fail
      refine HA.out.mono ?_
      rintro e w' ⟨rfl, rfl⟩
      go_wp2_with fail
      refine HB.out.mono ?_
      rintro e w' ⟨rfl, rfl⟩
      go_wp2_with fail
      go_ret
      exact ⟨by rw [HR.out, HE.out]; rfl, rfl⟩
    · have HE := Lib.hid (show cmpN a b = 0 by unfold cmpN; rw [if_neg h1, if_neg h2])
      go_wp2_with fail
      refine HA.out.mono ?_
      rintro e w' ⟨rfl, rfl⟩
      go_wp2_with fail
      refine HB.out.mono ?_
      rintro e w' ⟨rfl, rfl⟩
      go_wp2_with fail
      go_ret
      exact ⟨by rw [HR.out, HE.out]; rfl, rfl⟩
def orI (x y : Int) : Int := if x = 0 then y else x
set_option maxRecDepth 100000 in
set_option maxHeartbeats 1000000 in
theorem or_any (b : Nat) (x y : Int) (w : World) (h0 : w.cell? ⟨b, 0, none⟩ = some (.int .i64 x)) (h1 : w.cell? ⟨b, 1, none⟩ = some (.int .i64 y)) :
    Calls Try.prog 37 #[.slice (some ⟨b, 0, none⟩) 2 2] w fun e w' => e = .returned (.int .i64 (orI x y)) ∧ w = w' := by
  obtain ⟨r, hr⟩ : ∃ r, r = orI x y := ⟨_, rfl⟩
  rw [← hr]
  have HR := Lib.hid hr
  clear hr
  go_enter Try.func37, Try.ntmps37
  go_wp2_with fail
  go_loopg [8] 2 (fun g i wr => ∃ k : Nat, g = 2 - k ∧ k ≤ 2 ∧ i = .int .i64 k ∧ wr = w ∧ Hid ((0 < k → x = 0) ∧ (1 < k → y = 0)))
  case atStart => exact ⟨0, rfl, by omega, rfl, rfl, Lib.hid ⟨fun h => absurd h (by omega), fun h => absurd h (by omega)⟩⟩
  case round =>
    rename World => wo
    obtain ⟨k, hgk, hk, rfl, rfl, hx⟩ := hrel
    have HGK := Lib.hid hgk
    clear hgk
    obtain rfl | rfl | rfl : k = 0 ∨ k = 1 ∨ k = 2 := by omega
    · by_cases hz : x = 0
      · subst hz
        go_wp2_with fail
        go_roundg 1
        case measure => have := HGK.out; omega
        case rel => exact ⟨1, rfl, by omega, by simp, by simp, Lib.hid (by simp)⟩
      · have HE := Lib.hid (show orI x y = x by unfold orI; rw [if_neg hz])
        go_wp2_with fail
        go_ret
        exact ⟨by rw [HR.out, HE.out]; rfl, rfl⟩
    · have hx0 := hx.out.1 (by omega)
      have HE := Lib.hid (show orI x y = y by unfold orI; rw [if_pos hx0])
      by_cases hz : y = 0
      · have HX := Lib.hid hx0
        clear hx0
        subst hz
        go_wp2_with fail
        go_roundg 0
        case measure => have := HGK.out; omega
        case rel => exact ⟨2, rfl, by omega, by simp, by simp, Lib.hid (by have := HX.out; simp [this])⟩
      · go_wp2_with fail
        go_ret
        exact ⟨by rw [HR.out, HE.out]; rfl, rfl⟩
    · have HE := Lib.hid (show orI x y = 0 by unfold orI; rw [if_pos (hx.out.1 (by omega)), hx.out.2 (by omega)])
      clear hx
      go_wp2_with fail
      go_ret
      exact ⟨by rw [HR.out, HE.out]; rfl, rfl⟩
def lessPt (a b : Pt) : Bool := decide (orI (Lib.compareBytes a.1.data.toList b.1.data.toList) (cmpN a.2 b.2) < 0)
set_option maxRecDepth 100000 in
set_option maxHeartbeats 2000000 in
theorem less_any (p q : Pt) (w : World) : Calls Try.prog 22 #[.agg #[.string p.1, .int .u32 p.2], .agg #[.string q.1, .int .u32 q.2]] w (BIs (lessPt p q) w) := by
  obtain ⟨p1, p2⟩ := p
  obtain ⟨q1, q2⟩ := q
  dsimp only
  obtain ⟨r, hr⟩ : ∃ r, r = lessPt (p1, p2) (q1, q2) := ⟨_, rfl⟩
  rw [← hr]
  unfold lessPt at hr
  dsimp only at hr
  have HR := Lib.hid hr
  clear hr
  have hz1 := heap_alloc_new (w.alloc (.cells #[.string p1, .int .u32 p2] 40)) (.cells #[.string q1, .int .u32 q2] 40)
  have hz0 : ((w.alloc (.cells #[.string p1, .int .u32 p2] 40)).alloc (.cells #[.string q1, .int .u32 q2] 40)).heap[w.heap.size]? = some (.cells #[.string p1, .int .u32 p2] 40 (0, 0)) := by
    rw [Below.heap_alloc _ _ _ (by simp)]
    exact heap_alloc_new w _
  have hb : Below w.heap.size w ((w.alloc (.cells #[.string p1, .int .u32 p2] 40)).alloc (.cells #[.string q1, .int .u32 q2] 40)) := ((Below.refl _ _).alloc (Nat.le_refl _) _).alloc (by simp) _
  have s1 : (w.alloc (.cells #[.string p1, .int .u32 p2] 40)).heap.size = w.heap.size + 1 := by simp
  rw [s1] at hz1
  have HC := Lib.hid (fun w => Try.strings_Compare p1 q1 w)
  have HN := Lib.hid (fun w => cmp_any p2 q2 w)
  generalize Lib.compareBytes p1.data.toList q1.data.toList = cb at *
  generalize cmpN p2 q2 = cn at *
  go_enter Try.func22, Try.ntmps22
  go_upto_region 1 with fail
  generalize (w.alloc (.cells #[.string p1, .int .u32 p2] 40)).alloc (.cells #[.string q1, .int .u32 q2] 40) = w0 at *
  have d0 : w0.cell? ⟨w.heap.size, 0, none⟩ = some (.string p1) := cell_at hz0
  have d1 : w0.cell? ⟨w.heap.size, 1, none⟩ = some (.int .u32 p2) := cell_at hz0
  have e0 : w0.cell? ⟨w.heap.size + 1, 0, none⟩ = some (.string q1) := cell_at hz1
  have e1 : w0.cell? ⟨w.heap.size + 1, 1, none⟩ = some (.int .u32 q2) := cell_at hz1
  have HB := Lib.hid hb
  clear hb hz0 hz1 s1
  go_region_held (fun w' => w'.cell? ⟨w.heap.size, 0, none⟩ = some (.string p1) ∧ w'.cell? ⟨w.heap.size, 1, none⟩ = some (.int .u32 p2) ∧ w'.cell? ⟨w.heap.size + 1, 0, none⟩ = some (.string q1) ∧ w'.cell? ⟨w.heap.size + 1, 1, none⟩ = some (.int .u32 q2)) (go_keep)
    (first
      | (go_at_call 38; refine (HC.out _).mono ?_; rintro e w' ⟨rfl, rfl⟩)
      | (go_at_call 39; refine (HN.out _).mono ?_; rintro e w' ⟨rfl, rfl⟩)
      | (go_at_call 37; refine (or_any _ cb cn _ (by simp) (by simp)).mono ?_; rintro e w' ⟨rfl, rfl⟩))
  have HZ := Lib.hid (show ∀ o, Below w.heap.size w (w0.alloc o).drew from fun o => (HB.out.alloc HB.out.size o).trans ⟨rfl, rfl, rfl, Nat.le_refl _, fun _ _ => rfl⟩)
  go_wp2_with fail
  go_ret
  exact ⟨ret_bool HR.out.symm, HZ.out _⟩
end Go.Proofs.Ytjbpaknjiplakaa
