/-
  CheckFeesCard, part 6: the texts Gf, Oct, Bld, Lock, Lock2, Lock3, Lock4, Lock5, one after another. Conditions: none beyond those named at each.
-/
import Derived.Test.YtelindgnkpfkiaaGreatDoorGe
import Derived.Test.YtelindgnkpfkiaaGreatDoorQ1CheckFeesCard
import Derived.Test.YtelindgnkpfkiaaGreatDoorShelf
import Derived.Lib.Builder
import Derived.BigQuiet
import Derived.Deep.QuietTactic
import Derived.Deep.RegionHeld3
import Derived.OwnWalk
section
/-
  errors.Is at the errors that there are; Code, Place. Conditions: errors.errorType holds the handle of 'error'.
-/
namespace Go.Proofs.YtelindgnkpfkiaaGreatDoor
open Go.RowKit Go.Extern.Stop Go.Stop Go.Extern Go.BigFrame
set_option linter.unusedVariables false
set_option linter.unusedSimpArgs false

theorem compNo2 (w : World) : (ReflectliteType.method (fun t => do Rtype.noPackHeld "Comparable" t; (fun a : TypeInfo => Value.bool a.comparable) <$> typeInfo t) #[.agg #[.pointer (some ⟨2, 42, none⟩)]]).run Tryz.prog w = .ok (.bool true) w := by kernel_rfl
set_option maxRecDepth 100000 in
set_option maxHeartbeats 8000000 in
theorem isl_no (n k : Int) (w : World) : Calls Tryz.prog 40 #[.iface 42 (.int .i64 n), .iface 42 (.int .i64 k), .bool true] w fun e w' => e = .returned (.bool (n == k)) ∧ w = w' := by
  have q1 := eqlNo n k
  unfold noV at q1
  have nI := noIsNo
  have nU := noUnwNo
  have nW := noUnwsNo
  obtain ⟨r, hr⟩ : ∃ r, r = (n == k) := ⟨_, rfl⟩
  rw [← hr] at q1 ⊢
  clear hr
  cases r
  · go_enter Tryz.func40, Tryz.ntmps40
    go_wp2
    refine wp_loop_rounds 1 ?_
    rw [rounds_succ]
    go_wp2
    go_ret
    exact ⟨rfl, rfl⟩
  · go_enter Tryz.func40, Tryz.ntmps40
    go_wp2
    refine wp_loop_rounds 1 ?_
    rw [rounds_succ]
    go_wp2
    go_ret
    exact ⟨rfl, rfl⟩
set_option maxRecDepth 100000 in
set_option maxHeartbeats 8000000 in
theorem isl_fa (b : Nat) (at_ n k : Int) (w : World) (hfa : FaAt w b at_ n) : Calls Tryz.prog 40 #[.iface 96 (.pointer (some ⟨b, 0, none⟩)), .iface 42 (.int .i64 k), .bool true] w fun e w' => e = .returned (.bool (n == k)) ∧ w = w' := by
  have q1 := eqlNo n k
  have q2 := eqlFa (.pointer (some ⟨b, 0, none⟩)) k
  unfold noV at q1 q2
  have nI := noIsNo
  have nU := noUnwNo
  have nW := noUnwsNo
  have nI2 := noIsFa
  have nU2 := unwFa
  have HFA := Lib.hid hfa
  obtain ⟨r, hr⟩ : ∃ r, r = (n == k) := ⟨_, rfl⟩
  rw [← hr] at q1 ⊢
  clear hr hfa
  cases r
  · go_enter Tryz.func40, Tryz.ntmps40
    go_wp2
    refine wp_loop_rounds 2 ?_
    rw [rounds_succ]
    go_wp2_with fail
    refine (unwrap_any HFA.out).mono ?_
    rintro e w' ⟨rfl, rfl⟩
    go_wp2_with fail
    rw [rounds_succ]
    go_wp2
    go_ret
    exact ⟨rfl, rfl⟩
  · go_enter Tryz.func40, Tryz.ntmps40
    go_wp2
    refine wp_loop_rounds 2 ?_
    rw [rounds_succ]
    go_wp2_with fail
    refine (unwrap_any HFA.out).mono ?_
    rintro e w' ⟨rfl, rfl⟩
    go_wp2_with fail
    rw [rounds_succ]
    go_wp2
    go_ret
    exact ⟨rfl, rfl⟩
set_option maxRecDepth 100000 in
set_option maxHeartbeats 8000000 in
theorem eris_nil (k : Int) (w : World) : Calls Tryz.prog 16 #[.nilIface, .iface 42 (.int .i64 k)] w fun e w' => e = .returned (.bool false) ∧ w = w' := by
  have q1 := fun w : World => run_eql_iface_nil_left (P := Tryz.prog) w 42 (.int .i64 k) Tryz.underlying38
  go_enter Tryz.func16, Tryz.ntmps16
  go_wp2
  go_ret
  exact ⟨rfl, rfl⟩
set_option maxRecDepth 100000 in
set_option maxHeartbeats 8000000 in
theorem eris_no (n k : Int) (w : World) : Calls Tryz.prog 16 #[.iface 42 (.int .i64 n), .iface 42 (.int .i64 k)] w fun e w' => e = .returned (.bool (n == k)) ∧ w = w' := by
  have h1 := @run_callFunc_extern Tryz.prog 39 _ ReflectliteType.typeOf Tryz.func39 (by kernel_rfl) (by kernel_rfl) (by kernel_rfl) (by kernel_rfl)
  have h2 := @run_callFunc_extern Tryz.prog 136 _ (ReflectliteType.method (fun t => do Rtype.noPackHeld "Comparable" t; pure (.bool (← typeInfo t).comparable))) Tryz.func136 (by kernel_rfl) (by kernel_rfl) (by kernel_rfl) (by kernel_rfl)
  have tO := typeOfNo
  have mC := rlComp
  have cN := compNo2
  have HW := Lib.hid (isl_no n k w)
  go_enter Tryz.func16, Tryz.ntmps16
  go_wp2_with fail
  refine HW.out.mono ?_
  rintro e w' ⟨rfl, rfl⟩
  go_wp2_with fail
  go_ret
  exact ⟨rfl, rfl⟩
set_option maxRecDepth 100000 in
set_option maxHeartbeats 8000000 in
theorem eris_fa (b : Nat) (at_ n k : Int) (w : World) (hfa : FaAt w b at_ n) : Calls Tryz.prog 16 #[.iface 96 (.pointer (some ⟨b, 0, none⟩)), .iface 42 (.int .i64 k)] w fun e w' => e = .returned (.bool (n == k)) ∧ w = w' := by
  have h1 := @run_callFunc_extern Tryz.prog 39 _ ReflectliteType.typeOf Tryz.func39 (by kernel_rfl) (by kernel_rfl) (by kernel_rfl) (by kernel_rfl)
  have h2 := @run_callFunc_extern Tryz.prog 136 _ (ReflectliteType.method (fun t => do Rtype.noPackHeld "Comparable" t; pure (.bool (← typeInfo t).comparable))) Tryz.func136 (by kernel_rfl) (by kernel_rfl) (by kernel_rfl) (by kernel_rfl)
  have tO := typeOfNo
  have mC := rlComp
  have cN := compNo2
  have HW := Lib.hid (isl_fa b at_ n k w hfa)
  clear hfa
  go_enter Tryz.func16, Tryz.ntmps16
  go_wp2_with fail
  refine HW.out.mono ?_
  rintro e w' ⟨rfl, rfl⟩
  go_wp2_with fail
  go_ret
  exact ⟨rfl, rfl⟩

/-! ### an error as plain data -/
/-- An error: none, a number, a fault. -/
inductive PEr where
  | none
  | num (n : Int)
  | fault (at_ n : Int)
def PEr.code : PEr → Int
  | .none => 0
  | .num n => n
  | .fault _ n => n
def PEr.place : PEr → Int
  | .fault a _ => a
  | _ => -1
def PEr.is : PEr → Int → Bool
  | .none, _ => false
  | .num n, k => n == k
  | .fault _ n, k => n == k
def ErAt (w : World) (v : Value) : PEr → Prop
  | .none => v = .nilIface
  | .num n => v = .iface 42 (.int .i64 n)
  | .fault a n => ∃ b, v = .iface 96 (.pointer (some ⟨b, 0, none⟩)) ∧ FaAt w b a n
theorem FaAt.below {w w' : World} {b : Nat} {a n : Int} (h : FaAt w b a n) (hb : Below w.heap.size w w') : FaAt w' b a n := stay h hb
theorem ErAt.below {w w' : World} {v : Value} {x : PEr} (h : ErAt w v x) (hb : Below w.heap.size w w') : ErAt w' v x := by
  cases x with
  | none => exact h
  | num n => exact h
  | fault a n =>
    obtain ⟨b, h1, h2⟩ := h
    exact ⟨b, h1, h2.below hb⟩
theorem eris_any (v : Value) (x : PEr) (k : Int) (w : World) (h : ErAt w v x) : Calls Tryz.prog 16 #[v, .iface 42 (.int .i64 k)] w fun e w' => e = .returned (.bool (x.is k)) ∧ w = w' := by
  cases x with
  | none => obtain rfl := h; exact eris_nil k w
  | num n => obtain rfl := h; exact eris_no n k w
  | fault a n =>
    obtain ⟨b, rfl, h2⟩ := h
    exact eris_fa b a n k w h2
set_option maxRecDepth 100000 in
set_option maxHeartbeats 8000000 in
theorem ercode_any (v : Value) (x : PEr) (w : World) (hg : HdAt w) (h : ErAt w v x) : Calls Tryz.prog 18 #[v] w fun e w' => e = .returned (.int .i64 x.code) ∧ Below w.heap.size w w' := by
  have hz := heap_alloc_new w (.cells #[.int .i64 0] 42)
  have hal : Below w.heap.size w (w.alloc (.cells #[.int .i64 0] 42)) := (Below.refl _ _).alloc (Nat.le_refl _) _
  cases x with
  | none =>
    obtain rfl := h
    have HAL := Lib.hid hal
    clear hz hal
    go_enter Tryz.func18, Tryz.ntmps18
    go_wp2
    go_ret
    exact ⟨rfl, HAL.out⟩
  | num n =>
    obtain rfl := h
    have HA := Lib.hid (as_nono n w.heap.size (.int .i64 0) _ (hg.below hal) hz)
    have HAL := Lib.hid hal
    clear hz hal
    go_enter Tryz.func18, Tryz.ntmps18
    go_wp2_with fail
    refine HA.out.mono ?_
    rintro e w1 ⟨rfl, hf, hz1⟩
    have c0 : w1.cell? ⟨w.heap.size, 0, none⟩ = some (.int .i64 n) := cell_at hz1
    have HB := Lib.hid (HAL.out.trans (hf.below (B := w.heap.size) (by simp) (by simp)))
    clear hf hz1
    go_wp2_with fail
    go_ret
    exact ⟨rfl, HB.out⟩
  | fault a n =>
    obtain ⟨b, rfl, h2⟩ := h
    have hbl : b < w.heap.size := (Array.getElem?_eq_some_iff.1 h2).1
    have HA := Lib.hid (as_fano b a n w.heap.size (.int .i64 0) _ (hg.below hal) (h2.below hal) (by omega) hz)
    have HAL := Lib.hid hal
    clear hz hal h2
    go_enter Tryz.func18, Tryz.ntmps18
    go_wp2_with fail
    refine HA.out.mono ?_
    rintro e w1 ⟨rfl, hf, hz1⟩
    have c0 : w1.cell? ⟨w.heap.size, 0, none⟩ = some (.int .i64 n) := cell_at hz1
    have HB := Lib.hid (HAL.out.trans (hf.below (B := w.heap.size) (by simp) (by simp)))
    clear hf hz1
    go_wp2_with fail
    go_ret
    exact ⟨rfl, HB.out⟩
set_option maxRecDepth 100000 in
set_option maxHeartbeats 8000000 in
theorem erplace_any (v : Value) (x : PEr) (w : World) (hg : HdAt w) (h : ErAt w v x) : Calls Tryz.prog 19 #[v] w fun e w' => e = .returned (.int .i64 x.place) ∧ Below w.heap.size w w' := by
  have hz := heap_alloc_new w (.cells #[.pointer none] 96)
  have hal : Below w.heap.size w (w.alloc (.cells #[.pointer none] 96)) := (Below.refl _ _).alloc (Nat.le_refl _) _
  cases x with
  | none =>
    obtain rfl := h
    have HAL := Lib.hid hal
    clear hz hal
    go_enter Tryz.func19, Tryz.ntmps19
    go_wp2
    go_ret
    exact ⟨rfl, HAL.out⟩
  | num n =>
    obtain rfl := h
    have HA := Lib.hid (as_nofa n w.heap.size (.pointer none) _ (hg.below hal) hz)
    have HAL := Lib.hid hal
    clear hz hal
    go_enter Tryz.func19, Tryz.ntmps19
    go_wp2_with fail
    refine HA.out.mono ?_
    rintro e w1 ⟨rfl, hf, hz1⟩
    have HB := Lib.hid (HAL.out.trans (hf.below (B := w.heap.size) (by simp) (by simp)))
    clear hf hz1
    go_wp2_with fail
    go_ret
    exact ⟨rfl, HB.out⟩
  | fault a n =>
    obtain ⟨b, rfl, h2⟩ := h
    have hbl : b < w.heap.size := (Array.getElem?_eq_some_iff.1 h2).1
    have HA := Lib.hid (as_fafa b a n w.heap.size (.pointer none) _ (hg.below hal) (h2.below hal) (by omega) hz)
    have HAL := Lib.hid hal
    have H2 := Lib.hid (h2.below hal)
    clear hz hal h2
    go_enter Tryz.func19, Tryz.ntmps19
    go_wp2_with fail
    refine HA.out.mono ?_
    rintro e w1 ⟨rfl, hf, hz1⟩
    have c0 : w1.cell? ⟨w.heap.size, 0, none⟩ = some (.pointer (some ⟨b, 0, none⟩)) := cell_at hz1
    have c1 : w1.cell? ⟨b, 0, none⟩ = some (.int .i64 a) := cell_at (H2.out.fr hf (by simp; omega))
    have HB := Lib.hid (HAL.out.trans (hf.below (B := w.heap.size) (by simp) (by simp)))
    clear hf hz1
    go_wp2_with fail
    go_ret
    exact ⟨rfl, HB.out⟩
end Go.Proofs.YtelindgnkpfkiaaGreatDoor
end

section
/-
  Numbers in bytes, the lowest first: what the program's and the document's functions answer, as one plain function. Conditions: none.
-/
namespace Go.Proofs.YtelindgnkpfkiaaGreatDoor
open Go.RowKit
set_option linter.unusedVariables false

theorem info_u8 : (Tryz.prog.info? 5).map (fun i => (i.zero, i.size, i.bytes)) = some (some (.int .u8 0), 1, 1) := by kernel_rfl

/-- The lowest bytes of a number. -/
def leB (n : Nat) : Nat → List UInt8
  | 0 => []
  | k + 1 => leB n k ++ [UInt8.ofNat (n / 256 ^ k)]
theorem u8_mod (m : Nat) : ((UInt8.ofNat m).toNat : Int) = (m : Int) % 256 := by simp
theorem leB_length (n k : Nat) : (leB n k).length = k := by induction k with | zero => rfl | succ k ih => simp [leB, ih]
def okSize (k : Nat) : Prop := k = 1 ∨ k = 2 ∨ k = 4 ∨ k = 8

/-- The first place of a number in a list, or -1. -/
def idxI (xs : List Int) (x : Int) : Int := match xs.findIdx? (fun y => x == y) with | some i => i | none => -1

set_option maxHeartbeats 400000 in
theorem index_any (b o c n : Nat) (xs : List Int) (x : Int) (w : World) (hn : xs.length = n) (hn2 : n ≤ 9223372036854775807) (hc : ∀ i, i < n → w.cell? ⟨b, o + i, none⟩ = some (.int .i64 (xs.getD i 0))) :
    Calls Tryz.prog 113 #[.slice (some ⟨b, o, none⟩) n c, .int .i64 x] w fun e w' => e = .returned (.int .i64 (idxI xs x)) ∧ w = w' := by
  go_enter Tryz.func113, Tryz.ntmps113
  have HN := Lib.hid hn
  clear hn
  go_wp2
  go_loop [8] (fun i => ∃ j : Nat, j ≤ n ∧ i = .int .i64 j ∧ ∀ t, t < j → (x == xs.getD t 0) = false) (fun i => n - (intOf i).toNat)
  case atStart => exact ⟨0, Nat.zero_le _, rfl, fun t ht => absurd ht (Nat.not_lt_zero _)⟩
  case round =>
    obtain ⟨j, hj, rfl, hno⟩ := hrel
    have HNO := Lib.hid hno
    clear hno
    by_cases hlt : j < n
    · have hcell := hc j hlt
      have HC := Lib.hid hc
      clear hc
      generalize hy : xs.getD j 0 = y at *
      have HY := Lib.hid hy
      clear hy
      cases hxy : (x == y)
      · go_wp2
        go_round
        case rel =>
          refine ⟨j + 1, by omega, by go_num, fun t ht => ?_⟩
          rcases Nat.lt_or_ge t j with h | h
          · exact HNO.out t h
          · rw [show t = j by omega, HY.out]; exact hxy
        case measure => simp [intOf]; omega
      · go_wp2
        go_ret
        refine ⟨ret_int ?_, rfl⟩
        have hjl : j < xs.length := by rw [HN.out]; exact hlt
        have hgd : ∀ t, (h : t < xs.length) → xs.getD t 0 = xs[t] := fun t h => by simp [List.getD, h]
        have : xs.findIdx? (fun y => x == y) = some j := by
          rw [List.findIdx?_eq_some_iff_getElem]
          refine ⟨hjl, ?_, fun t ht => ?_⟩
          · rw [← hgd j hjl, HY.out]; exact hxy
          · rw [← hgd t (by omega)]; simpa using HNO.out t ht
        unfold idxI
        rw [this]
    · clear hc
      go_wp2
      go_ret
      refine ⟨ret_int ?_, rfl⟩
      have hgd : ∀ t, (h : t < xs.length) → xs.getD t 0 = xs[t] := fun t h => by simp [List.getD, h]
      have : xs.findIdx? (fun y => x == y) = none := by
        rw [List.findIdx?_eq_none_iff]
        intro y hy
        obtain ⟨t, ht, rfl⟩ := List.getElem_of_mem hy
        rw [← hgd t ht]
        exact HNO.out t (by have := HN.out; omega)
      unfold idxI
      rw [this]

theorem idx_sizes (k : Int) : decide (0 ≤ idxI [1, 2, 4, 8] k) = (k == 1 || k == 2 || k == 4 || k == 8) := by
  unfold idxI
  simp only [List.findIdx?_cons, List.findIdx?_nil]
  by_cases h1 : k = 1
  · subst h1; rfl
  by_cases h2 : k = 2
  · subst h2; rfl
  by_cases h4 : k = 4
  · subst h4; rfl
  by_cases h8 : k = 8
  · subst h8; rfl
  · simp [h1, h2, h4, h8]

set_option maxHeartbeats 400000 in
theorem contains_any (b o c n : Nat) (xs : List Int) (x : Int) (w : World) (hn : xs.length = n) (hn2 : n ≤ 9223372036854775807) (hc : ∀ i, i < n → w.cell? ⟨b, o + i, none⟩ = some (.int .i64 (xs.getD i 0))) :
    Calls Tryz.prog 108 #[.slice (some ⟨b, o, none⟩) n c, .int .i64 x] w fun e w' => e = .returned (.bool (decide (0 ≤ idxI xs x))) ∧ w = w' := by
  have hi := index_any b o c n xs x w hn hn2 hc
  have HI := Lib.hid hi
  clear hi hc hn
  go_enter Tryz.func108, Tryz.ntmps108
  go_wp2_with (go_at_call 113; refine HI.out.mono ?_; rintro e w' ⟨rfl, rfl⟩)
  go_ret
  exact ⟨rfl, rfl⟩

set_option maxHeartbeats 400000 in
theorem known_any (k : Int) (w : World) : Calls Tryz.prog 95 #[.int .i64 k] w fun e w' => e = .returned (.bool (k == 1 || k == 2 || k == 4 || k == 8)) ∧ Below w.heap.size w w' := by
  rw [← idx_sizes]
  have h0 : ∀ i, i < 4 → (w.alloc (.cells #[.int .i64 1, .int .i64 2, .int .i64 4, .int .i64 8] 3)).cell? ⟨w.heap.size, 0 + i, none⟩ = some (.int .i64 ([1, 2, 4, 8].getD i 0)) := by
    intro i hi
    rw [cell_at (heap_alloc_new w _)]
    match i, hi with
    | 0, _ => rfl
    | 1, _ => rfl
    | 2, _ => rfl
    | 3, _ => rfl
  have HI := Lib.hid (contains_any w.heap.size 0 4 4 [1, 2, 4, 8] k _ rfl (by omega) h0)
  clear h0
  go_enter Tryz.func95, Tryz.ntmps95
  go_wp2_with (go_at_call 108; refine HI.out.mono ?_; rintro e w' ⟨rfl, rfl⟩)
  go_ret
  exact ⟨rfl, (Below.refl _ _).alloc (Nat.le_refl _) _⟩

theorem known_yes {k : Nat} (hk : okSize k) (w : World) : Calls Tryz.prog 95 #[.int .i64 k] w fun e w' => e = .returned (.bool true) ∧ Below w.heap.size w w' := by
  refine (known_any k w).mono fun e w' ⟨h1, h2⟩ => ⟨?_, h2⟩
  rw [h1]
  rcases hk with rfl | rfl | rfl | rfl <;> rfl

set_option maxRecDepth 100000 in
set_option maxHeartbeats 400000 in
theorem put_any (n k : Nat) (hn : n < 18446744073709551616) (hk : okSize k) (w : World) :
    Calls Tryz.prog 81 #[.int .u64 n, .int .i64 k] w fun e w' => e = .returned (.string ⟨(leB n k).toArray⟩) ∧ Below w.heap.size w w' := by
  have hkn := known_yes hk w
  have hk8 : k ≤ 8 := by unfold okSize at hk; omega
  clear hk
  go_enter Tryz.func81, Tryz.ntmps81
  go_wp2_with fail
  refine hkn.mono ?_
  rintro e w1 ⟨rfl, hb1⟩
  have hB := hb1.size
  clear hkn
  obtain ⟨B, hBe⟩ : ∃ B, B = w.heap.size := ⟨_, rfl⟩
  rw [← hBe] at hb1 hB
  have HB := Lib.hid hBe
  clear hBe
  go_wp2_with fail
  obtain ⟨i0, hi, hz0, hz1, hz2⟩ := info_parts info_u8
  go_loopw [0, 5, 10] (fun m v i wr => ∃ j : Nat, j ≤ k ∧ i = .int .i64 j ∧ m = .int .u64 (n / 256 ^ j : Nat) ∧ Below B w wr ∧ wr.ownsRow B 5 1 v j (bytesOf (leB n j))) (fun _ _ i _ => k - (intOf i).toNat)
  case atStart => exact ⟨0, Nat.zero_le _, rfl, by simp, hb1, World.ownsRow_nil _ _ _ _⟩
  case round =>
    obtain ⟨j, hj, rfl, rfl, hbw, hown⟩ := hrel
    have hsz := hbw.size
    have hpow : n / 256 ^ j < 18446744073709551616 := Nat.lt_of_le_of_lt (Nat.div_le_self _ _) hn
    by_cases hlt : j < k
    · obtain ⟨a', c', w', hrun, hown', hbw', -⟩ := append_el (P := Tryz.prog) (t := 106) (ty := 106) Tryz.underlying106 hi hz0 hz1 hz2 rfl hown #[.int .u8 (((n / 256 ^ j : Nat) : Int) % 256)] rfl (by simp [Value.oneCell']) (by rw [maxLen_eq]; omega) (by omega) (by have := HB.out; omega)
      have HP := Lib.hid hpow
      have HR := Lib.hid hrun
      have HO := Lib.hid hown'
      have HBW := Lib.hid hbw'
      have hdd : n / 256 ^ j / 256 = n / 256 ^ (j + 1) := by rw [Nat.div_div_eq_div_mul, ← Nat.pow_succ]
      have HDD := Lib.hid hdd
      have hu8 := u8_mod (n / 256 ^ j)
      have HU := Lib.hid hu8
      have hlb : leB n (j + 1) = leB n j ++ [UInt8.ofNat (n / 256 ^ j)] := rfl
      have HLB := Lib.hid hlb
      clear hrun hown' hbw' hpow hn hdd hu8 hlb
      generalize n / 256 ^ j = m at *
      go_wp2_with (at_builtin; refine wpList_append_run rfl (.tmp 12) (.tmp 15) 106 106 rfl rfl rfl HR.out ?_)
      go_roundw
      case rel =>
        refine ⟨j + 1, by omega, by go_num, by rw [← HDD.out]; simp, hbw.trans HBW.out, ?_⟩
        have h := HO.out
        rw [← HU.out] at h
        rw [HLB.out, bytesOf_append]
        exact h
      case measure => simp [intOf]; omega
    · have hje : j = k := by omega
      subst hje
      obtain ⟨a5, c5, rfl, -, -⟩ := ownsRow_shape hown
      have hconv := convert_bytes hown
      go_wp2
      go_ret
      exact ⟨rfl, by rw [← HB.out]; exact hbw⟩

theorem u64_half {m : Nat} (h : m < 18446744073709551616) : Value.int .u64 (IntKind.u64.wrap ((m : Int) / 256)) = .int .u64 ((m / 256 : Nat) : Int) := by
  congr 1
  rw [IntWalk.u64_in _ (by omega)]
  omega
theorem mk_one (l : List UInt8) (b : UInt8) : ByteArray.mk l.toArray ++ ByteArray.mk #[b] = ⟨(l ++ [b]).toArray⟩ := mk_mk l [b]
theorem one_byte (w : World) (m : Nat) : (convert 106 9 (.slice (some ⟨w.heap.size, 0, none⟩) 1 1)).run Tryz.prog (w.alloc (.cells #[.int .u8 ((m : Int) % 256)] 5)) =
    .ok (.string ⟨#[UInt8.ofNat m]⟩) (w.alloc (.cells #[.int .u8 ((m : Int) % 256)] 5)) := by
  have h : (w.alloc (.cells #[.int .u8 ((m : Int) % 256)] 5)).ownsRow 0 5 1 (.slice (some ⟨w.heap.size, 0, none⟩) 1 1) 1 (bytesOf [UInt8.ofNat m]) := by
    refine ⟨rfl, .inr ⟨w.heap.size, 1, _, rfl, Nat.zero_le _, heap_alloc_new w _, Nat.le_refl _, by rw [maxLen_eq]; omega, rfl, ?_⟩⟩
    simp [bytesOf]
  exact convert_bytes h

theorem put1_any (n : Nat) (hn : n < 18446744073709551616) (w : World) : Calls Tryz.prog 81 #[.int .u64 n, .int .i64 1] w fun e w' => e = .returned (.string ⟨(leB n 1).toArray⟩) ∧ Below w.heap.size w w' := put_any n 1 hn (.inl rfl) w
theorem put2_any (n : Nat) (hn : n < 18446744073709551616) (w : World) : Calls Tryz.prog 81 #[.int .u64 n, .int .i64 2] w fun e w' => e = .returned (.string ⟨(leB n 2).toArray⟩) ∧ Below w.heap.size w w' := put_any n 2 hn (.inr (.inl rfl)) w
theorem put4_any (n : Nat) (hn : n < 18446744073709551616) (w : World) : Calls Tryz.prog 81 #[.int .u64 n, .int .i64 4] w fun e w' => e = .returned (.string ⟨(leB n 4).toArray⟩) ∧ Below w.heap.size w w' := put_any n 4 hn (.inr (.inr (.inl rfl))) w
theorem put8_any (n : Nat) (hn : n < 18446744073709551616) (w : World) : Calls Tryz.prog 81 #[.int .u64 n, .int .i64 8] w fun e w' => e = .returned (.string ⟨(leB n 8).toArray⟩) ∧ Below w.heap.size w w' := put_any n 8 hn (.inr (.inr (.inr rfl))) w

theorem known_no {k : Int} (hk : k ≠ 1 ∧ k ≠ 2 ∧ k ≠ 4 ∧ k ≠ 8) (w : World) : Calls Tryz.prog 95 #[.int .i64 k] w fun e w' => e = .returned (.bool false) ∧ Below w.heap.size w w' := by
  refine (known_any k w).mono fun e w' ⟨h1, h2⟩ => ⟨?_, h2⟩
  rw [h1]
  simp [hk.1, hk.2.1, hk.2.2.1, hk.2.2.2]

/-- The number that lies in some bytes. -/
def leN : List UInt8 → Nat
  | [] => 0
  | b :: r => b.toNat + 256 * leN r

/-- The number that lies at a place of a text. -/
def getN (s : ByteArray) (at_ k : Nat) : Nat := leN ((s.data.toList.drop at_).take k)

set_option maxRecDepth 100000 in
set_option maxHeartbeats 400000 in
theorem rput_any (n k : Nat) (hn : n < 18446744073709551616) (hk : okSize k) (w : World) :
    Calls Tryz.prog 61 #[.int .u64 n, .int .i64 k] w fun e w' => e = .returned (.string ⟨(leB n k).toArray⟩) ∧ Below w.heap.size w w' := by
  have hk8 : k ≤ 8 := by unfold okSize at hk; omega
  obtain ⟨B, hBe⟩ : ∃ B, B = w.heap.size := ⟨_, rfl⟩
  have HB := Lib.hid hBe
  have hb1 : Below B w w := Below.refl _ _
  clear hBe
  obtain ⟨i0, hi, hz0, hz1, hz2⟩ := info_parts info_u8
  have key : ∀ K : Nat, K = k → K ≤ 8 → (((K : Int) != 1) = false ∨ (((K : Int) != 1) = true ∧ ((K : Int) != 2) = false) ∨ (((K : Int) != 1) = true ∧ ((K : Int) != 2) = true ∧ ((K : Int) != 4) = false) ∨ (((K : Int) != 1) = true ∧ ((K : Int) != 2) = true ∧ ((K : Int) != 4) = true ∧ ((K : Int) != 8) = false)) := by
    rintro K rfl _
    rcases hk with rfl | rfl | rfl | rfl <;> decide
  have hq := key k rfl hk8
  clear key hk
  rcases hq with h1 | ⟨h1, h2⟩ | ⟨h1, h2, h3⟩ | ⟨h1, h2, h3, h4⟩
  all_goals
    go_enter Tryz.func61, Tryz.ntmps61
    go_wp2_with fail
    go_loopw [0, 5, 6] (fun m v i wr => ∃ j : Nat, j ≤ k ∧ i = .int .i64 j ∧ m = .int .u64 (n / 256 ^ j : Nat) ∧ Below B w wr ∧ v = .string ⟨(leB n j).toArray⟩) (fun _ _ i _ => k - (intOf i).toNat)
    case atStart => exact ⟨0, Nat.zero_le _, rfl, by simp, hb1, rfl⟩
    case round =>
      obtain ⟨j, hj, rfl, rfl, hbw, rfl⟩ := hrel
      have hsz := hbw.size
      have hpow : n / 256 ^ j < 18446744073709551616 := Nat.lt_of_le_of_lt (Nat.div_le_self _ _) hn
      by_cases hlt : j < k
      · have hone := one_byte wr (n / 256 ^ j)
        have hdd : n / 256 ^ j / 256 = n / 256 ^ (j + 1) := by rw [Nat.div_div_eq_div_mul, ← Nat.pow_succ]
        have HDD := Lib.hid hdd
        have hlb : leB n (j + 1) = leB n j ++ [UInt8.ofNat (n / 256 ^ j)] := rfl
        have HLB := Lib.hid hlb
        have HP := Lib.hid hpow
        have hll : ((leB n j).length : Int) ≤ 8 := by rw [leB_length]; omega
        clear hdd hlb hpow hn
        generalize n / 256 ^ j = m at *
        go_wp2
        go_roundw
        case rel => exact ⟨j + 1, by omega, by go_num, by rw [← HDD.out]; exact u64_half HP.out, hbw.alloc (by have := HB.out; omega) _, by rw [HLB.out, mk_one]⟩
        case measure => simp [intOf]; omega
      · have hje : j = k := by omega
        subst hje
        go_wp2
        go_ret
        exact ⟨rfl, by rw [← HB.out]; exact hbw⟩

theorem leN_lt (l : List UInt8) : leN l < 256 ^ l.length := by
  induction l with
  | nil => simp [leN]
  | cons b r ih =>
    simp only [leN, List.length_cons, Nat.pow_succ]
    have := b.toNat_lt
    omega

/-- The bytes from a place on. -/
def part (s : ByteArray) (i k : Nat) : List UInt8 := (s.data.toList.drop i).take k
theorem part_step {s : ByteArray} {i k : Nat} (h : i < s.size) : part s i (k + 1) = s.data.toList[i]'(by simpa using h) :: part s (i + 1) k := by
  unfold part
  rw [List.drop_eq_getElem_cons (by simpa using h), List.take_succ_cons]
theorem part_len {s : ByteArray} {i k : Nat} (h : i + k ≤ s.size) : (part s i k).length = k := by
  unfold part
  rw [List.length_take, List.length_drop, data_len]
  omega

theorem byte_eq {s : ByteArray} {i j : Nat} {hi : i < s.size} {hj : j < s.data.toList.length} (h : i = j) : s[i]'hi = s.data.toList[j]'hj := by subst h; rfl
theorem or_step {m b : Nat} (hm : m < 72057594037927936) (hb : b < 256) : Value.int .u64 (bits .or .u64 (IntKind.u64.wrap ((m : Int) * 256)) (IntKind.u64.wrap (b : Int))) = .int .u64 ((b + 256 * m : Nat) : Int) := by
  rw [IntWalk.u64_in _ (by omega), IntWalk.u64_in _ (by omega), show (m : Int) * 256 = ((2 ^ 8 * m : Nat) : Int) by omega, bits_or_u64_nat _ _ (by omega) (by omega), ← Nat.two_pow_add_eq_or_of_lt (by omega)]
  congr 2
  omega

set_option maxRecDepth 100000 in
set_option maxHeartbeats 400000 in
theorem get_no (s : ByteArray) (p : Int) (k : Nat) (hk : okSize k) (hs : s.size ≤ 9223372036854775807) (h : p < 0 ∨ (s.size : Int) - k < p) (w : World) :
    Calls Tryz.prog 79 #[.string s, .int .i64 p, .int .i64 k] w fun e w' => e = .returned (.tuple #[.int .u64 0, .bool false]) ∧ Below w.heap.size w w' := by
  have hkn := known_yes hk w
  have hk8 : k ≤ 8 := by unfold okSize at hk; omega
  clear hk
  go_enter Tryz.func79, Tryz.ntmps79
  by_cases hp : p < 0
  · clear h
    go_wp2_with (go_at_call 95; refine hkn.mono ?_; rintro e w1 ⟨rfl, hb1⟩)
    go_ret2
    exact ⟨rfl, hb1⟩
  · have h' : (s.size : Int) - k < p := by omega
    clear h
    go_wp2_with (go_at_call 95; refine hkn.mono ?_; rintro e w1 ⟨rfl, hb1⟩)
    go_ret2
    exact ⟨rfl, hb1⟩

set_option maxRecDepth 100000 in
set_option maxHeartbeats 400000 in
theorem get_yes (s : ByteArray) (p k : Nat) (hk : okSize k) (hs : s.size ≤ 9223372036854775807) (h : p + k ≤ s.size) (w : World) :
    Calls Tryz.prog 79 #[.string s, .int .i64 p, .int .i64 k] w fun e w' => e = .returned (.tuple #[.int .u64 (getN s p k), .bool true]) ∧ Below w.heap.size w w' := by
  have hkn := known_yes hk w
  have hk8 : k ≤ 8 := by unfold okSize at hk; omega
  have hk0 : 1 ≤ k := by unfold okSize at hk; omega
  clear hk
  have HKN := Lib.hid hkn
  clear hkn
  go_enter Tryz.func79, Tryz.ntmps79
  go_wp2_with fail
  refine HKN.out.mono ?_
  rintro e w1 ⟨rfl, hb1⟩
  have HB := Lib.hid hb1
  clear hb1
  go_wp2_with fail
  go_loop [8, 9] (fun n i => ∃ j : Nat, j ≤ k ∧ i = .int .i64 ((p : Int) + k - 1 - j) ∧ n = .int .u64 (leN (part s (p + k - j) j) : Nat)) (fun _ i => (intOf i + 1 - p).toNat)
  case atStart => exact ⟨0, Nat.zero_le _, by simp, by simp [part, leN]⟩
  case round =>
    obtain ⟨j, hj, rfl, rfl⟩ := hrel
    by_cases hlt : j < k
    · have hps := part_step (s := s) (i := p + k - (j + 1)) (k := j) (by omega)
      have hpl := leN_lt (part s (p + k - j) j)
      rw [part_len (by omega)] at hpl
      rw [show p + k - (j + 1) + 1 = p + k - j by omega] at hps
      have HPS := Lib.hid hps
      have HPL := Lib.hid hpl
      clear hps hpl
      generalize hm : leN (part s (p + k - j) j) = m at *
      have HM := Lib.hid hm
      clear hm
      have hge : (p : Int) ≤ p + k - 1 - j := by omega
      go_wp2
      go_round
      case rel =>
        have h256 : (256 : Nat) ^ j ≤ 256 ^ 7 := Nat.pow_le_pow_right (by omega) (by omega)
        have hmm := HPL.out
        refine ⟨j + 1, by omega, by congr 1; omega, ?_⟩
        rw [HPS.out, or_step (by omega) (UInt8.toNat_lt _)]
        simp only [leN]
        rw [HM.out]
        congr 3
        exact congrArg UInt8.toNat (byte_eq (by omega))
      case measure => simp [intOf]; omega
    · have hje : j = k := by omega
      subst hje
      have hlt' : ((p : Int) + j - 1 - j) < p := by omega
      go_wp2
      go_ret2
      exact ⟨rfl, HB.out⟩

theorem leN_append (l : List UInt8) (b : UInt8) : leN (l ++ [b]) = leN l + b.toNat * 256 ^ l.length := by
  induction l with
  | nil => simp [leN]
  | cons a r ih => simp only [List.cons_append, leN, ih, List.length_cons, Nat.pow_succ, Nat.mul_add]; rw [Nat.mul_left_comm 256, Nat.mul_comm (256 ^ r.length) 256]; omega
theorem part_snoc {s : ByteArray} {i k : Nat} (h : i + k < s.size) : part s i (k + 1) = part s i k ++ [s.data.toList[i + k]'(by simpa using h)] := by
  unfold part
  rw [List.take_succ_eq_append_getElem (by rw [List.length_drop, data_len]; omega)]
  simp

theorem rg_sum {m q b : Nat} (hm : m < q) (hq : q ≤ 256 ^ 7) (hb : b < 256) :
    Value.int .u64 (IntKind.u64.wrap ((m : Int) + IntKind.u64.wrap (IntKind.u64.wrap (b : Int) * IntKind.u64.wrap (q : Int)))) = .int .u64 ((m + b * q : Nat) : Int) := by
  have h1 : b * q ≤ 255 * q := Nat.mul_le_mul_right _ (by omega)
  have h3 : (b : Int) * (q : Int) = ((b * q : Nat) : Int) := by simp
  have h4 : q ≤ 72057594037927936 := hq
  clear hq
  rw [IntWalk.u64_in (b : Int) (by omega), IntWalk.u64_in (q : Int) (by omega), h3]
  obtain ⟨x, hx⟩ : ∃ x, x = b * q := ⟨_, rfl⟩
  rw [← hx] at h1 ⊢
  clear h3 hx
  rw [IntWalk.u64_in (x : Int) (by omega), IntWalk.u64_in _ (by omega), Int.natCast_add]
theorem rg_pow (q : Nat) : Value.int .u64 (IntKind.u64.wrap (IntKind.u64.wrap (q : Int) * 256)) = .int .u64 (IntKind.u64.wrap ((q * 256 : Nat) : Int)) := by
  have e : IntKind.u64.wrap (IntKind.u64.wrap (q : Int) * 256) = IntKind.u64.wrap ((q * 256 : Nat) : Int) := by
    rw [IntKind.wrap_u64, IntKind.wrap_u64, IntKind.wrap_u64]
    omega
  rw [e]

theorem size_tests {k : Nat} (hk : okSize k) : ((k : Int) != 1) = false ∨ (((k : Int) != 1) = true ∧ ((k : Int) != 2) = false) ∨ (((k : Int) != 1) = true ∧ ((k : Int) != 2) = true ∧ ((k : Int) != 4) = false) ∨ (((k : Int) != 1) = true ∧ ((k : Int) != 2) = true ∧ ((k : Int) != 4) = true ∧ ((k : Int) != 8) = false) := by
  rcases hk with rfl | rfl | rfl | rfl <;> decide

set_option maxRecDepth 100000 in
set_option maxHeartbeats 800000 in
theorem rget_no (s : ByteArray) (p : Int) (k : Nat) (hk : okSize k) (hs : s.size ≤ 9223372036854775807) (h : p < 0 ∨ (s.size : Int) - k < p) (w : World) :
    Calls Tryz.prog 88 #[.string s, .int .i64 p, .int .i64 k] w fun e w' => e = .returned (.tuple #[.int .u64 0, .bool false]) ∧ w = w' := by
  have hk8 : k ≤ 8 := by unfold okSize at hk; omega
  have hq := size_tests hk
  clear hk
  by_cases hp : p < 0
  · clear h
    rcases hq with h1 | ⟨h1, h2⟩ | ⟨h1, h2, h3⟩ | ⟨h1, h2, h3, h4⟩
    all_goals
      go_enter Tryz.func88, Tryz.ntmps88
      go_wp2
      go_ret2
      exact ⟨rfl, rfl⟩
  · have h' : (s.size : Int) - k < p := by omega
    clear h
    rcases hq with h1 | ⟨h1, h2⟩ | ⟨h1, h2, h3⟩ | ⟨h1, h2, h3, h4⟩
    all_goals
      go_enter Tryz.func88, Tryz.ntmps88
      go_wp2
      go_ret2
      exact ⟨rfl, rfl⟩

set_option maxRecDepth 100000 in
set_option maxHeartbeats 800000 in
theorem rget_yes (s : ByteArray) (p k : Nat) (hk : okSize k) (hs : s.size ≤ 9223372036854775807) (h : p + k ≤ s.size) (w : World) :
    Calls Tryz.prog 88 #[.string s, .int .i64 p, .int .i64 k] w fun e w' => e = .returned (.tuple #[.int .u64 (getN s p k), .bool true]) ∧ w = w' := by
  have hk8 : k ≤ 8 := by unfold okSize at hk; omega
  have hq := size_tests hk
  clear hk
  rcases hq with h1 | ⟨h1, h2⟩ | ⟨h1, h2, h3⟩ | ⟨h1, h2, h3, h4⟩
  all_goals
    go_enter Tryz.func88, Tryz.ntmps88
    go_wp2_with fail
    go_loop [8, 9, 10] (fun n q i => ∃ j : Nat, j ≤ k ∧ i = .int .i64 j ∧ n = .int .u64 (leN (part s p j) : Nat) ∧ q = .int .u64 (IntKind.u64.wrap ((256 ^ j : Nat) : Int))) (fun _ _ i => k - (intOf i).toNat)
    case atStart => exact ⟨0, Nat.zero_le _, rfl, by simp [part, leN], by rw [Nat.pow_zero, IntWalk.u64_in _ (by omega)]; rfl⟩
    case round =>
      obtain ⟨j, hj, rfl, rfl, rfl⟩ := hrel
      by_cases hlt : j < k
      · have hps := part_snoc (s := s) (i := p) (k := j) (by omega)
        have hpl := leN_lt (part s p j)
        rw [part_len (by omega)] at hpl
        have HPS := Lib.hid hps
        have HPL := Lib.hid hpl
        clear hps hpl
        generalize hm : leN (part s p j) = m at *
        have HM := Lib.hid hm
        clear hm
        generalize hq : (256 : Nat) ^ j = q at *
        have HQ := Lib.hid hq
        clear hq
        go_wp2
        go_round
        case rel =>
          have h256 : (256 : Nat) ^ j ≤ 256 ^ 7 := Nat.pow_le_pow_right (by omega) (by omega)
          rw [HQ.out] at h256
          refine ⟨j + 1, by omega, by go_num, ?_, by rw [Nat.pow_succ, HQ.out]; exact rg_pow q⟩
          rw [rg_sum HPL.out h256 (UInt8.toNat_lt _), HPS.out, leN_append, part_len (by omega), HM.out, HQ.out]
          rfl
        case measure => simp [intOf]; omega
      · have hje : j = k := by omega
        subst hje
        go_wp2
        go_ret2
        exact ⟨rfl, rfl⟩

end Go.Proofs.YtelindgnkpfkiaaGreatDoor
end

section
/-
  A strings.Builder that a call has made itself: copyCheck and WriteString. Conditions: it lies in a block of the call's own; together no more than 2^47 bytes.
-/
namespace Go.Proofs.YtelindgnkpfkiaaGreatDoor
open Go.RowKit
set_option linter.unusedVariables false

set_option maxHeartbeats 1000000 in
set_option maxRecDepth 100000 in
theorem check_used (b : Nat) (w : World) (h0 : w.cell? ⟨b, 0, none⟩ = some (.pointer (some ⟨b, 0, none⟩))) :
    Calls Tryz.prog 96 #[.pointer (some ⟨b, 0, none⟩)] w fun e w' => e = .returned (.tuple #[]) ∧ w = w' := by
  obtain ⟨j, hj, _⟩ := Option.map_eq_some_iff.1 (show (Tryz.prog.info? 171).map (·.size) = some 2 by kernel_rfl)
  have hne := Lib.run_neq_ptr_same (P := Tryz.prog) w ⟨b, 0, none⟩ Tryz.underlying169 hj
  go_enter Tryz.func96, Tryz.ntmps96
  go_wp2
  go_end0
  exact ⟨rfl, rfl⟩

set_option maxHeartbeats 1000000 in
set_option maxRecDepth 100000 in
theorem check_fresh (b : Nat) (w : World) (h0 : w.cell? ⟨b, 0, none⟩ = some (.pointer none)) (hsh : w.shape? b = some (171, 2)) (hfz : w.frozen? ⟨b, 0, none⟩ = false) :
    Calls Tryz.prog 96 #[.pointer (some ⟨b, 0, none⟩)] w fun e w' => e = .returned (.tuple #[]) ∧ w.setCell ⟨b, 0, none⟩ (.pointer (some ⟨b, 0, none⟩)) = w' := by
  obtain ⟨j, hj, hjs⟩ := Option.map_eq_some_iff.1 (show (Tryz.prog.info? 171).map (·.size) = some 2 by kernel_rfl)
  have h1 := Lib.run_to_unsafe (P := Tryz.prog) w ⟨b, 0, none⟩ Tryz.underlying169 Tryz.underlying153 hj (by rw [hjs]; decide) hsh (Nat.zero_lt_succ 1)
  have h2 := Lib.run_from_unsafe (P := Tryz.prog) w ⟨b, 0, none⟩ Tryz.underlying153 Tryz.underlying169 hj hsh (by kernel_rfl)
  have h3 := Lib.run_neq_ptr_same (P := Tryz.prog) (w.setCell ⟨b, 0, none⟩ (.pointer (some ⟨b, 0, none⟩))) ⟨b, 0, none⟩ Tryz.underlying169 hj
  have H1 := Lib.hid h1
  have H2 := Lib.hid h2
  have H3 := Lib.hid h3
  clear h1 h2 h3 hsh hj hjs
  go_enter Tryz.func96, Tryz.ntmps96
  go_wp2
  rw [H1.out]
  simp only [Result.andThen]
  rw [Oper.upon_value]
  go_wp2
  rw [run_callFunc_extern Tryz.func109 (by kernel_rfl) (by kernel_rfl) (by kernel_rfl) (e := Extern.AbiNoEscape.same) (by kernel_rfl)]
  rw [Lib.run_noEscape]
  simp only [Result.andThen]
  rw [Oper.upon_value]
  go_wp2
  rw [H2.out]
  simp only [Result.andThen]
  rw [Oper.upon_value]
  go_wp2
  go_end0
  exact ⟨rfl, rfl⟩

/-- copyCheck: behind it the builder is used, its bytes are as they were. -/
theorem bcheck_any (B b : Nat) (bs : List Value) (w : World) (h : Lib.IsBuilder 171 5 B b bs w) :
    Calls Tryz.prog 96 #[.pointer (some ⟨b, 0, none⟩)] w fun e w' => e = .returned (.tuple #[]) ∧ Lib.BuilderAt 171 5 B b (.pointer (some ⟨b, 0, none⟩)) bs w' ∧ Below B w w' := by
  rcases h with h | h
  · exact (check_fresh b w h.cell0 h.shape h.frozen0).mono fun e w' ⟨h1, h2⟩ => ⟨h1, h2 ▸ h.used _, h2 ▸ (Below.refl B w).setCell (p := ⟨b, 0, none⟩) h.1 _⟩
  · exact (check_used b w h.cell0).mono fun e w' ⟨h1, h2⟩ => ⟨h1, h2 ▸ h, h2 ▸ Below.refl B _⟩

set_option maxHeartbeats 1000000 in
set_option maxRecDepth 100000 in
theorem bwrite_any (B b : Nat) (l : List UInt8) (s : ByteArray) (w : World) (h : Lib.IsBuilder 171 5 B b (bytesOf l) w) (hlen : l.length + s.size ≤ 140737488355328) (hBw : B ≤ w.heap.size) :
    Calls Tryz.prog 80 #[.pointer (some ⟨b, 0, none⟩), .string s] w fun e w' => e = .returned (.tuple #[.int .i64 s.size, .nilIface]) ∧
      Lib.IsBuilder 171 5 B b (bytesOf (l ++ s.data.toList)) w' ∧ Below B w w' := by
  obtain ⟨i0, hi, hz0, hz1, hz2⟩ := info_parts info_u8
  have HC := Lib.hid (bcheck_any B b (bytesOf l) w h)
  have HL := Lib.hid hlen
  clear h hlen
  go_enter Tryz.func80, Tryz.ntmps80
  go_wp2_with fail
  refine HC.out.mono ?_
  rintro e w1 ⟨rfl, hb1, hbl⟩
  obtain ⟨hB, v, hbk, hown, hne⟩ := hb1
  have hlt := (Array.getElem?_eq_some_iff.1 hbk).1
  rw [bytesOf_length] at hown
  obtain ⟨a, c, rfl, -, -⟩ := ownsRow_shape hown
  obtain ⟨v', w2, hrun, hown', hgrow, hnew⟩ := append_own_src (P := Tryz.prog) w1 B 106 9 106 5 i0 _ 1 1 Tryz.underlying106 hi hz0 hz1 hz2 rfl _ _ _ hown (.string s) s.size (byteCells s) (Src.ofString w1 Tryz.underlying9 s)
    (by rw [maxLen_eq]; have := HL.out; omega) (by have := HL.out; omega) (Nat.le_trans hBw hbl.size)
  obtain ⟨a', c', rfl, -, -⟩ := ownsRow_shape hown'
  have hb2 : w2.heap[b]? = _ := (hgrow.block b hlt (fun e => hne e.symm)).trans hbk
  have h1 : w1.cell? ⟨b, 1, none⟩ = some (.slice a l.length c) := cell_at hbk
  have h2 : w2.cell? ⟨b, 1, none⟩ = some (.slice a l.length c) := cell_at hb2
  have h3 : w2.frozen? ⟨b, 1, none⟩ = false := free_at hb2
  have hne' : (Value.slice a' (l.length + s.size) c').ownBlock ≠ some b := by
    rcases hnew with e | e
    · rw [e]; exact hne
    · rw [e]; intro e'; cases e'; exact absurd hlt (Nat.lt_irrefl _)
  have hfin : Lib.IsBuilder 171 5 B b (bytesOf (l ++ s.data.toList)) (w2.setCell ⟨b, 1, none⟩ (.slice a' (l.length + s.size) c')) ∧ Below B w (w2.setCell ⟨b, 1, none⟩ (.slice a' (l.length + s.size) c')) := by
    refine ⟨.inr ⟨hB, _, heap_setCell_at hb2, ?_, hne'⟩, (hbl.grown hgrow (Nat.le_trans hBw hbl.size) (fun k e => (hown.lt k e).1)).setCell (p := ⟨b, 1, none⟩) hB _⟩
    rw [bytesOf_length, List.length_append, data_len, bytesOf_append, ← byteCells_eq]
    exact ownsRow_of_block hown' fun k e => Below.heap_setCell _ _ _ _ (fun e' => hne' (by rw [e, e']))
  have HF := Lib.hid hfin
  have HR := Lib.hid hrun
  clear hfin hrun hown' hgrow hnew hbk hb2 hne hne' hown hi hz0 hz1 hz2
  go_wp2_with (at_builtin; refine wpList_append_run rfl (.tmp 12) (.tmp 13) 106 9 rfl rfl rfl HR.out ?_)
  go_ret2
  exact ⟨rfl, HF.out⟩

theorem isb_later {T e B b : Nat} {bs : List Value} {w w' : World} (h : Lib.IsBuilder T e B b bs w) (hb : Below w.heap.size w w') : Lib.IsBuilder T e B b bs w' := by
  have key : ∀ p, Lib.BuilderAt T e B b p bs w → Lib.BuilderAt T e B b p bs w' := fun p ⟨hB, v, hbk, hown, hne⟩ =>
    ⟨hB, v, by rw [hb.block b (Array.getElem?_eq_some_iff.1 hbk).1]; exact hbk, ownsRow_below hown hb, hne⟩
  exact h.imp (key _) (key _)
theorem isb_new (T e : Nat) (w : World) : Lib.IsBuilder T e w.heap.size w.heap.size [] (w.alloc (.cells #[.pointer none, .slice none 0 0] T)) :=
  .inl ⟨Nat.le_refl _, .slice none 0 0, heap_alloc_new w _, World.ownsRow_nil _ _ _ _, by simp [Value.ownBlock]⟩
theorem isb_lt {T e B b : Nat} {bs : List Value} {w : World} (h : Lib.IsBuilder T e B b bs w) : B ≤ b ∧ b < w.heap.size := by
  rcases h with h | h <;> exact ⟨h.1, h.lt⟩

theorem byteCells_same (l : List UInt8) : Lib.byteCells l = bytesOf l := rfl
theorem bstring_any (B b : Nat) (l : List UInt8) (w : World) (h : Lib.IsBuilder 171 5 B b (bytesOf l) w) (hBw : B ≤ w.heap.size) :
    Calls Tryz.prog 82 #[.pointer (some ⟨b, 0, none⟩)] w fun e w' => e = .returned (.string ⟨l.toArray⟩) ∧ Below B w w' :=
  Tryz.Builder_String_any B b l w h hBw

end Go.Proofs.YtelindgnkpfkiaaGreatDoor
end

section
/-
  Locks: what the program's functions answer, as plain functions. Conditions: none beyond each theorem's own.
-/
namespace Go.Proofs.YtelindgnkpfkiaaGreatDoor
open Go.RowKit Go.BigFrame
set_option linter.unusedVariables false

attribute [go_sem] leB_length
@[go_sem] theorem bytes_append (l m : List UInt8) : ({ data := l.toArray } : ByteArray) ++ { data := m.toArray } = { data := (l ++ m).toArray } := by
  apply ByteArray.ext; simp

/-- A branch as plain data. -/
structure PBr where
  tag : Nat
  delay : Nat
  height : Nat
structure PBr.Ok (x : PBr) : Prop where
  tag : x.tag < 65536
  delay : x.delay < 65536
  height : x.height < 4294967296
def rpBr : Rp PBr := ⟨3, fun _ cs (x : PBr) => cs = [.int .u16 x.tag, .int .u16 x.delay, .int .u32 x.height] ∧ x.Ok, fun _ h => h⟩

theorem SlAt.br {w : World} {a : Option Addr} {n c i : Nat} {xs : List PBr} (h : SlAt rpBr w (.slice a n c) xs) (hi : i < n) : ∃ (b o : Nat) (x : PBr), a = some ⟨b, o, none⟩ ∧ xs[i]? = some x ∧ x.Ok ∧
    w.cell? ⟨b, o + i * 3, none⟩ = some (.int .u16 x.tag) ∧ w.cell? ⟨b, o + i * 3 + 1, none⟩ = some (.int .u16 x.delay) ∧ w.cell? ⟨b, o + i * 3 + 2, none⟩ = some (.int .u32 x.height) := by
  obtain ⟨b, o, x, cs, h1, h2, h3, h4, h5, h6⟩ := h.at hi
  subst h5
  exact ⟨b, o, x, h1, h2, h6, h4 0 _ rfl, h4 1 _ rfl, h4 2 _ rfl⟩

def putBr (x : PBr) : List UInt8 := leB x.tag 2 ++ leB x.delay 2 ++ leB x.height 4
theorem putBrs_len (l : List PBr) : (l.flatMap putBr).length = 8 * l.length := by
  induction l with
  | nil => rfl
  | cons x l ih => simp only [List.flatMap_cons, List.length_append, ih, putBr, leB_length, List.length_cons]; omega
def tooHigh (x : PBr) : Bool := decide (1000000 < x.height)
def lockPut (l : List PBr) : List UInt8 × Int :=
  if l.length < 1 ∨ 3 < l.length then ([], 6) else if l.any tooHigh then ([], 3) else (leB l.length 1 ++ l.flatMap putBr, 0)
theorem lockPut_count {l : List PBr} (h : l.length < 1 ∨ 3 < l.length) : lockPut l = ([], 6) := by unfold lockPut; rw [if_pos h]
theorem lockPut_range {l : List PBr} (h : ¬ (l.length < 1 ∨ 3 < l.length)) (ha : l.any tooHigh = true) : lockPut l = ([], 3) := by unfold lockPut; rw [if_neg h, if_pos ha]
theorem lockPut_ok {l : List PBr} (h : ¬ (l.length < 1 ∨ 3 < l.length)) (ha : l.any tooHigh = false) : lockPut l = (leB l.length 1 ++ l.flatMap putBr, 0) := by unfold lockPut; rw [if_neg h, ha]; rfl
def LockPutIs (xs : List PBr) (w : World) (e : Ending) (w' : World) : Prop := e = .returned (.tuple #[.string ⟨(lockPut xs).1.toArray⟩, .int .i64 (lockPut xs).2]) ∧ Below w.heap.size w w'
theorem lockPut_is {xs : List PBr} {w w' : World} {l : List UInt8} {n : Int} (h : lockPut xs = (l, n)) (hb : Below w.heap.size w w') : LockPutIs xs w (.returned (.tuple #[.string ⟨l.toArray⟩, .int .i64 n])) w' := by
  unfold LockPutIs
  rw [h]
  exact ⟨rfl, hb⟩

set_option maxRecDepth 100000 in
set_option maxHeartbeats 1000000 in
theorem lput_any (v : Value) (xs : List PBr) (w : World) (hv : SlAt rpBr w v xs) : Calls Tryz.prog 60 #[v] w (LockPutIs xs w) := by
  obtain ⟨a, c, rfl, hl1, hl2⟩ := hv.shape
  rw [maxLen_eq] at hl2
  obtain ⟨n, hn⟩ : ∃ n, n = xs.length := ⟨_, rfl⟩
  rw [← hn] at hl1 hv ⊢
  have HN := Lib.hid hn
  clear hn
  by_cases h1 : n < 1
  · clear hv
    go_enter Tryz.func60, Tryz.ntmps60
    go_wp2
    go_ret2
    exact lockPut_is (lockPut_count (.inl (HN.out ▸ h1))) (Below.refl _ _)
  by_cases h3 : 3 < n
  · clear hv
    go_enter Tryz.func60, Tryz.ntmps60
    go_wp2
    go_ret2
    exact lockPut_is (lockPut_count (.inr (HN.out ▸ h3))) (Below.refl _ _)
  have hcnt : ¬ (xs.length < 1 ∨ 3 < xs.length) := by rw [← HN.out]; omega
  have HCNT := Lib.hid hcnt
  clear hcnt
  go_enter Tryz.func60, Tryz.ntmps60
  go_wp2_with fail
  refine (put_any n 1 (by omega) (.inl rfl) _).mono ?_
  rintro e w1 ⟨rfl, hb1⟩
  have hisb := isb_later (isb_new 171 5 w) hb1
  have hbl : Below w.heap.size w w1 := ((Below.refl _ _).alloc (Nat.le_refl _) _).trans (hb1.mono (by simp))
  obtain ⟨B, hB⟩ : ∃ B, B = w.heap.size := ⟨_, rfl⟩
  rw [← hB] at hisb hbl ⊢
  have HB := Lib.hid hB
  clear hB hb1
  go_wp2_with fail
  refine (bwrite_any B B [] ⟨(leB n 1).toArray⟩ w1 hisb (by simp [ByteArray.size, leB_length]) (by rw [HB.out]; exact hbl.size)).mono ?_
  rintro e w2 ⟨rfl, hisb2, hbl2⟩
  have hbw := hbl.trans hbl2
  simp only [List.nil_append] at hisb2
  clear hisb hbl hbl2
  go_wp2_with fail
  go_loopw [22] (fun i wr => ∃ k : Nat, k ≤ n ∧ i = .int .i64 k ∧ Below B w wr ∧ Lib.IsBuilder 171 5 B B (bytesOf (leB n 1 ++ (xs.take k).flatMap putBr)) wr ∧ (xs.take k).any tooHigh = false) (fun i _ => n - (intOf i).toNat)
  case atStart => exact ⟨0, Nat.zero_le _, rfl, hbw, by simpa using hisb2, by simp⟩
  case round =>
    obtain ⟨k, hk, rfl, hbw', hisb, hok⟩ := hrel
    by_cases hlt : k < n
    · obtain ⟨b, o, x, rfl, hx, hxo, hc0, hc1, hc2⟩ := (hv.mono (below_cells (HB.out ▸ hbw'))).br hlt
      obtain ⟨ht1, ht2, ht3⟩ := hxo
      obtain ⟨tg, dl, hg⟩ := x
      dsimp only at hc0 hc1 hc2 ht1 ht2 ht3
      by_cases hh : 1000000 < hg
      · have hany : xs.any tooHigh = true := by
          rw [List.any_eq_true]
          exact ⟨_, List.mem_of_getElem? hx, by simp [tooHigh, hh]⟩
        have HA := Lib.hid hany
        have hfin : Below w.heap.size w (wr.alloc (.cells #[.int .u16 tg, .int .u16 dl, .int .u32 hg] 81)) := (HB.out ▸ hbw').alloc (HB.out ▸ hbw').size _
        have HF := Lib.hid hfin
        clear hany hx hisb hbw hisb2 hok hfin hbw'
        go_wp2
        go_ret2
        exact lockPut_is (lockPut_range HCNT.out HA.out) HF.out
      · have HX := Lib.hid hx
        have HO := Lib.hid hok
        obtain ⟨hBB, hBl⟩ := isb_lt hisb
        clear hx hok hbw hisb2 hv
        obtain ⟨w0, hw0⟩ : ∃ w0, w0 = wr.alloc (.cells #[.int .u16 tg, .int .u16 dl, .int .u32 hg] 81) := ⟨_, rfl⟩
        obtain ⟨C, hC⟩ : ∃ C : World → Prop, C = fun w' => Below (wr.heap.size + 1) w0 w' := ⟨_, rfl⟩
        have hk0 : ∀ x : Kin C, x.w.cell? ⟨wr.heap.size, 0, none⟩ = some (.int .u16 tg) := by
          intro ⟨x, h⟩; subst hC; subst hw0; exact (h.cell (by simp)).trans (by rw [cell_at (heap_alloc_new wr _)]; rfl)
        have hk1 : ∀ x : Kin C, x.w.cell? ⟨wr.heap.size, 1, none⟩ = some (.int .u16 dl) := by
          intro ⟨x, h⟩; subst hC; subst hw0; exact (h.cell (by simp)).trans (by rw [cell_at (heap_alloc_new wr _)]; rfl)
        have hk2 : ∀ x : Kin C, x.w.cell? ⟨wr.heap.size, 2, none⟩ = some (.int .u32 hg) := by
          intro ⟨x, h⟩; subst hC; subst hw0; exact (h.cell (by simp)).trans (by rw [cell_at (heap_alloc_new wr _)]; rfl)
        have hstep : ∀ (x : Kin C) (w' : World), Below x.w.heap.size x.w w' → C w' := by
          intro ⟨x, h⟩ w' h2; subst hC; exact h.trans (h2.mono (by have := h.size; rw [hw0] at this; simpa using this))
        have HS := Lib.hid hstep
        have HC := Lib.hid hC
        have HW := Lib.hid hw0
        have HI := Lib.hid hisb
        have HBW := Lib.hid hbw'
        clear hstep hC hisb hbw'
        go_wp2_with fail
        rw [← hw0]
        clear hw0
        refine wp_region_last_kin C 14 _ rfl rfl (by kernel_rfl) (by kernel_rfl) (by kernel_rfl) (by kernel_rfl) (by kernel_rfl) (by kernel_rfl) (by rw [HC.out]; exact (Below.refl _ _).drew) ?_
        intro hne
        dsimp only [List.set, struck]
        repeat (first | (go_big_quiet_step (first | (rename_i x; go_at_call_of 81 tg; exact Calls.kin (put2_any tg (by omega) _) (HS.out x)) | (rename_i x; go_at_call_of 81 dl; exact Calls.kin (put2_any dl (by omega) _) (HS.out x)) | (rename_i x; go_at_call_of 81 hg; exact Calls.kin (put4_any hg (by omega) _) (HS.out x)))) | (quiet_step (first | (rename_i x; go_at_call_of 81 tg; exact Calls.kin (put2_any tg (by omega) _) (HS.out x)) | (rename_i x; go_at_call_of 81 dl; exact Calls.kin (put2_any dl (by omega) _) (HS.out x)) | (rename_i x; go_at_call_of 81 hg; exact Calls.kin (put4_any hg (by omega) _) (HS.out x)))))
        refine wpQuiet_nil ?_
        intro _ hw'
        obtain ⟨kx, hw''⟩ := hw'
        subst hw''
        obtain ⟨wx, hxc⟩ := kx
        rw [HC.out] at hxc
        rw [HW.out] at hxc
        have hbx : Below wr.heap.size wr wx := ((Below.refl _ _).alloc (Nat.le_refl _) _).trans (hxc.mono (Nat.le_succ _))
        have hisb := isb_later HI.out hbx
        have hbwx : Below B w wx := HBW.out.trans (hbx.mono (Nat.le_of_lt hBl))
        have hBx : B ≤ wx.heap.size := Nat.le_trans (Nat.le_of_lt hBl) hbx.size
        have HBX := Lib.hid hbwx
        clear hbx hbwx hxc
        go_wp2_with fail
        refine (bwrite_any B B (leB n 1 ++ (xs.take k).flatMap putBr) ⟨(leB tg 2 ++ leB dl 2 ++ leB hg 4).toArray⟩ wx hisb (by simp only [ByteArray.size, List.length_append, leB_length, putBrs_len, List.length_take, List.size_toArray]; omega) hBx).mono ?_
        rintro e w3 ⟨rfl, hisb3, hb3⟩
        clear hisb hBx
        go_wp2_with fail
        go_roundw
        case rel =>
          refine ⟨k + 1, by omega, by go_num, HBX.out.trans hb3, ?_, ?_⟩
          · have : (xs.take (k + 1)).flatMap putBr = (xs.take k).flatMap putBr ++ (leB tg 2 ++ leB dl 2 ++ leB hg 4) := by
              rw [List.take_add_one, HX.out]; simp [putBr]
            rw [this, ← List.append_assoc]
            exact hisb3
          · rw [List.take_add_one, HX.out]
            simp [HO.out, tooHigh]
            omega
        case measure => simp [intOf]; omega
    · obtain rfl : k = n := by omega
      have hall : xs.any tooHigh = false := by rw [HN.out, List.take_length] at hok; exact hok
      have hbs : Lib.IsBuilder 171 5 B B (bytesOf (leB k 1 ++ xs.flatMap putBr)) wr := by rw [HN.out, List.take_length] at hisb; rw [HN.out]; exact hisb
      have HA := Lib.hid hall
      have HBW := Lib.hid hbw'
      have hBl := (isb_lt hbs).2
      clear hok hisb hall hv hbw hisb2 hbw'
      go_wp2_with fail
      refine (bstring_any B B (leB k 1 ++ xs.flatMap putBr) wr hbs (Nat.le_of_lt hBl)).mono ?_
      rintro e w3 ⟨rfl, hb3⟩
      go_wp2_with fail
      go_ret2
      have hp := lockPut_ok HCNT.out HA.out
      rw [← HN.out] at hp
      exact lockPut_is hp (by rw [← HB.out]; exact HBW.out.trans hb3)

end Go.Proofs.YtelindgnkpfkiaaGreatDoor
end

section
/-
  Locks, the second part: the document's Put, both Gets. Conditions: none beyond each theorem's own.
-/
namespace Go.Proofs.YtelindgnkpfkiaaGreatDoor
open Go.RowKit
set_option linter.unusedVariables false

set_option maxRecDepth 100000 in
set_option maxHeartbeats 1000000 in
theorem rlput_any (v : Value) (xs : List PBr) (w : World) (hv : SlAt rpBr w v xs) : Calls Tryz.prog 29 #[v] w (LockPutIs xs w) := by
  obtain ⟨a, c, rfl, hl1, hl2⟩ := hv.shape
  rw [maxLen_eq] at hl2
  obtain ⟨n, hn⟩ : ∃ n, n = xs.length := ⟨_, rfl⟩
  rw [← hn] at hl1 hv ⊢
  have HN := Lib.hid hn
  clear hn
  by_cases h1 : n < 1
  · clear hv
    go_enter Tryz.func29, Tryz.ntmps29
    go_wp2
    go_ret2
    exact lockPut_is (lockPut_count (.inl (HN.out ▸ h1))) (Below.refl _ _)
  by_cases h3 : 3 < n
  · clear hv
    go_enter Tryz.func29, Tryz.ntmps29
    go_wp2
    go_ret2
    exact lockPut_is (lockPut_count (.inr (HN.out ▸ h3))) (Below.refl _ _)
  have hcnt : ¬ (xs.length < 1 ∨ 3 < xs.length) := by rw [← HN.out]; omega
  have HCNT := Lib.hid hcnt
  clear hcnt
  have hone := one_byte w n
  rw [Int.emod_eq_of_lt (by omega) (by omega)] at hone
  have hlb : leB n 1 = [UInt8.ofNat n] := by simp [leB]
  have HLB := Lib.hid hlb
  have hb0 : Below w.heap.size w (w.alloc (.cells #[.int .u8 (n : Int)] 5)) := (Below.refl _ _).alloc (Nat.le_refl _) _
  have HB0 := Lib.hid hb0
  clear hlb hb0
  go_enter Tryz.func29, Tryz.ntmps29
  go_wp2_with fail
  go_loopw [4, 5, 6, 7, 8] (fun out i _ _ _ wr => ∃ k : Nat, k ≤ n ∧ i = .int .i64 k ∧ Below w.heap.size w wr ∧ out = .string ⟨(leB n 1 ++ (xs.take k).flatMap putBr).toArray⟩ ∧ (xs.take k).any tooHigh = false) (fun _ i _ _ _ _ => n - (intOf i).toNat)
  case atStart => exact ⟨0, Nat.zero_le _, rfl, HB0.out, by rw [HLB.out]; simp, by simp⟩
  case round =>
    obtain ⟨k, hk, rfl, hbw, rfl, hok⟩ := hrel
    by_cases hlt : k < n
    · obtain ⟨b, o, x, rfl, hx, hxo, hc0, hc1, hc2⟩ := (hv.mono (below_cells hbw)).br hlt
      obtain ⟨ht1, ht2, ht3⟩ := hxo
      obtain ⟨tg, dl, hg⟩ := x
      dsimp only at hc0 hc1 hc2 ht1 ht2 ht3
      by_cases hh : 1000000 < hg
      · have hany : xs.any tooHigh = true := by
          rw [List.any_eq_true]
          exact ⟨_, List.mem_of_getElem? hx, by simp [tooHigh, hh]⟩
        have HA := Lib.hid hany
        have HF := Lib.hid hbw
        clear hany hx hok hbw
        go_wp2
        go_ret2
        exact lockPut_is (lockPut_range HCNT.out HA.out) HF.out
      · have HX := Lib.hid hx
        have HO := Lib.hid hok
        have HW := Lib.hid hbw
        obtain ⟨L, hL⟩ : ∃ L, L = (xs.take k).flatMap putBr := ⟨_, rfl⟩
        have hLl : (L.length : Int) ≤ 24 := by
          rw [hL, putBrs_len, List.length_take]
          omega
        rw [← hL]
        have HL := Lib.hid hL
        clear hx hok hbw hv hL
        go_wp2_with fail
        refine (rput_any tg 2 (by omega) (.inr (.inl rfl)) _).mono ?_
        rintro e w1 ⟨rfl, hb1⟩
        have hd0 := below_cells hb1 _ _ hc0
        have hd1 := below_cells hb1 _ _ hc1
        have hd2 := below_cells hb1 _ _ hc2
        have HB1 := Lib.hid hb1
        clear hc0 hc1 hc2 hb1
        go_wp2_with fail
        refine (rput_any dl 2 (by omega) (.inr (.inl rfl)) _).mono ?_
        rintro e w2 ⟨rfl, hb2⟩
        have hc2 := below_cells hb2 _ _ hd2
        have HB2 := Lib.hid hb2
        clear hd0 hd1 hd2 hb2
        go_wp2_with fail
        refine (rput_any hg 4 (by omega) (.inr (.inr (.inl rfl))) _).mono ?_
        rintro e w3 ⟨rfl, hb3⟩
        have HB3 := Lib.hid hb3
        clear hc2 hb3
        go_wp2
        go_roundw
        case rel =>
          have b1 := HB1.out
          have b2 := HB2.out
          have b3 := HB3.out
          have h12 := b1.trans (b2.mono b1.size)
          have h13 := h12.trans (b3.mono h12.size)
          refine ⟨k + 1, by omega, by go_num, HW.out.trans (h13.mono HW.out.size), ?_, ?_⟩
          · have : (xs.take (k + 1)).flatMap putBr = L ++ (leB tg 2 ++ leB dl 2 ++ leB hg 4) := by
              rw [List.take_add_one, HX.out, HL.out]; simp [putBr]
            rw [this]
            simp
          · rw [List.take_add_one, HX.out]
            simp [HO.out, tooHigh]
            omega
        case measure => simp [intOf]; omega
    · obtain rfl : k = n := by omega
      have hall : xs.any tooHigh = false := by rw [HN.out, List.take_length] at hok; exact hok
      have HA := Lib.hid hall
      have hE : leB k 1 ++ (xs.take k).flatMap putBr = leB k 1 ++ xs.flatMap putBr := by rw [HN.out, List.take_length]
      rw [hE]
      have HW := Lib.hid hbw
      clear hok hall hv hE hbw
      go_wp2
      go_ret2
      have hp := lockPut_ok HCNT.out HA.out
      rw [← HN.out] at hp
      exact lockPut_is hp HW.out

/-- The number that stands in so many bytes. -/
theorem number_any (s : ByteArray) (p k : Nat) (hk : okSize k) (hs : s.size ≤ 9223372036854775807) (h : p + k ≤ s.size) (w : World) :
    Calls Tryz.prog 59 #[.string s, .int .i64 p, .int .i64 k] w fun e w' => e = .returned (.int .u64 (getN s p k)) ∧ Below w.heap.size w w' := by
  have hg := get_yes s p k hk hs h w
  have HG := Lib.hid hg
  clear hg hk
  go_enter Tryz.func59, Tryz.ntmps59
  go_wp2_with fail
  refine HG.out.mono ?_
  rintro e w1 ⟨rfl, hb1⟩
  go_wp2
  go_ret
  exact ⟨rfl, hb1⟩

end Go.Proofs.YtelindgnkpfkiaaGreatDoor
end

section
/-
  Locks, the third part: the branches of a script. Conditions: none beyond each theorem's own.
-/
namespace Go.Proofs.YtelindgnkpfkiaaGreatDoor
open Go.RowKit
set_option linter.unusedVariables false

/-- The branch number i of a script. -/
def brAt (s : ByteArray) (i : Nat) : PBr := ⟨getN s (1 + 8 * i) 2, getN s (3 + 8 * i) 2, getN s (5 + 8 * i) 4⟩
def brs (s : ByteArray) (n : Nat) : List PBr := (List.range n).map (brAt s)
def firstB (s : ByteArray) : Nat := (s.data.toList.headD 0).toNat
/-- Has a script the length that its first byte says? -/
def okLen (s : ByteArray) : Prop := 1 ≤ firstB s ∧ firstB s ≤ 3 ∧ s.size = 1 + 8 * firstB s
instance (s : ByteArray) : Decidable (okLen s) := inferInstanceAs (Decidable (_ ∧ _))
def lockGet (s : ByteArray) : Option (List PBr) := if okLen s ∧ (brs s (firstB s)).any tooHigh = false then some (brs s (firstB s)) else none

theorem getN_lt (s : ByteArray) (p k : Nat) : getN s p k < 256 ^ k := by
  unfold getN
  refine Nat.lt_of_lt_of_le (leN_lt _) (Nat.pow_le_pow_right (by omega) ?_)
  rw [List.length_take]
  omega
theorem brAt_ok (s : ByteArray) (i : Nat) : (brAt s i).Ok := ⟨getN_lt s _ 2, getN_lt s _ 2, getN_lt s _ 4⟩
theorem brs_len (s : ByteArray) (n : Nat) : (brs s n).length = n := by simp [brs]
theorem brs_succ (s : ByteArray) (n : Nat) : brs s (n + 1) = brs s n ++ [brAt s n] := by simp [brs, List.range_succ]
theorem brs_take (s : ByteArray) {k n : Nat} (h : k ≤ n) : (brs s n).take k = brs s k := by
  unfold brs
  rw [← List.map_take, List.take_range, Nat.min_eq_left h]

/-- The cells of branches. -/
def brCells (l : List PBr) : List Value := l.flatMap fun x => [.int .u16 x.tag, .int .u16 x.delay, .int .u32 x.height]
theorem brCells_len (l : List PBr) : (brCells l).length = l.length * 3 := by
  induction l with
  | nil => rfl
  | cons x l ih => simp only [brCells, List.flatMap_cons, List.length_append, List.length_cons, List.length_nil] at *; omega
theorem brCells_at (l : List PBr) : ∀ (i : Nat) (x : PBr), l[i]? = some x → ∀ j u, [Value.int .u16 x.tag, .int .u16 x.delay, .int .u32 x.height][j]? = some u → (brCells l)[i * 3 + j]? = some u := by
  induction l with
  | nil => intro i x h; simp at h
  | cons y l ih =>
    intro i x h j u hj
    have hlt : j < 3 := by simpa using (List.getElem?_eq_some_iff.1 hj).1
    cases i with
    | zero =>
      have : y = x := by simpa using h
      subst this
      simp only [brCells, List.flatMap_cons]
      rw [List.getElem?_append_left (by simp; omega)]
      simpa using hj
    | succ i =>
      have h' : l[i]? = some x := by simpa using h
      have := ih i x h' j u hj
      simp only [brCells, List.flatMap_cons] at *
      rw [List.getElem?_append_right (by simp; omega)]
      rw [show (i + 1) * 3 + j - [Value.int .u16 y.tag, .int .u16 y.delay, .int .u32 y.height].length = i * 3 + j by simp; omega]
      exact this
theorem SlAt.of_br {w : World} {base e n : Nat} {v : Value} {l : List PBr} (ho : w.ownsRow base e 3 v n (brCells l)) (hok : ∀ x ∈ l, x.Ok) : SlAt rpBr w v l := by
  obtain ⟨a, c, rfl, h1, h2⟩ := ownsRow_shape ho
  have hl : l.length = n := by have := ho.1; rw [brCells_len] at this; omega
  refine ⟨a, c, by rw [hl], by omega, h2, fun i x hi => ?_⟩
  rcases ho.2 with ⟨h, h0⟩ | ⟨g, cap, cur, h, _, _, _, _, _, _⟩
  · have := (List.getElem?_eq_some_iff.1 hi).1
    omega
  · obtain ⟨rfl, rfl⟩ : a = some ⟨g, 0, none⟩ ∧ c = cap := by simpa using h
    refine ⟨g, 0, _, rfl, rfl, fun j u hj => ?_, rfl, hok x (List.mem_of_getElem? hi)⟩
    have := ho.cells (g := g) rfl _ u (brCells_at l i x hi j u hj)
    rw [Addr.add_lit] at this
    rw [Nat.add_assoc]
    exact this

theorem info_br : (Tryz.prog.info? 81).map (fun i => (i.zero, i.size, i.bytes)) = some (some (.agg #[.int .u16 0, .int .u16 0, .int .u32 0]), 3, 8) := by kernel_rfl

/-- What a Get answers: the branches, in memory made since. -/
def GetIs (s : ByteArray) (w : World) (e : Ending) (w' : World) : Prop := ∃ v, e = .returned (.tuple #[v, .int .i64 (if (lockGet s).isSome then 0 else 4)]) ∧ SlAt rpBr w' v ((lockGet s).getD []) ∧ Below w.heap.size w w' ∧ ∀ k, v.ownBlock = some k → w.heap.size ≤ k
theorem get_none {s : ByteArray} {w w' : World} (h : lockGet s = none) (hb : Below w.heap.size w w') : GetIs s w (.returned (.tuple #[.slice none 0 0, .int .i64 4])) w' := by
  unfold GetIs
  rw [h]
  exact ⟨_, rfl, sl_nil, hb, fun k h => by cases h⟩
theorem get_some {s : ByteArray} {w w' : World} {l : List PBr} {v : Value} (h : lockGet s = some l) (hv : SlAt rpBr w' v l) (hb : Below w.heap.size w w') (hk : ∀ k, v.ownBlock = some k → w.heap.size ≤ k) : GetIs s w (.returned (.tuple #[v, .int .i64 0])) w' := by
  unfold GetIs
  rw [h]
  exact ⟨_, rfl, hv, hb, hk⟩
theorem lockGet_len {s : ByteArray} (h : ¬ okLen s) : lockGet s = none := by unfold lockGet; rw [if_neg (fun h' => h h'.1)]
theorem lockGet_high {s : ByteArray} (h : (brs s (firstB s)).any tooHigh = true) : lockGet s = none := by unfold lockGet; rw [if_neg (fun h' => by rw [h] at h'; cases h'.2)]
theorem lockGet_ok {s : ByteArray} (h : okLen s) (h2 : (brs s (firstB s)).any tooHigh = false) : lockGet s = some (brs s (firstB s)) := by unfold lockGet; rw [if_pos ⟨h, h2⟩]

theorem number2 (s : ByteArray) (i : Int) (p : Nat) (hi : i = p) (hs : s.size ≤ 9223372036854775807) (h : p + 2 ≤ s.size) (w : World) :
    Calls Tryz.prog 59 #[.string s, .int .i64 i, .int .i64 2] w fun e w' => e = .returned (.int .u64 (getN s p 2)) ∧ Below w.heap.size w w' := by subst hi; exact number_any s p 2 (.inr (.inl rfl)) hs h w
theorem number4 (s : ByteArray) (i : Int) (p : Nat) (hi : i = p) (hs : s.size ≤ 9223372036854775807) (h : p + 4 ≤ s.size) (w : World) :
    Calls Tryz.prog 59 #[.string s, .int .i64 i, .int .i64 4] w fun e w' => e = .returned (.int .u64 (getN s p 4)) ∧ Below w.heap.size w w' := by subst hi; exact number_any s p 4 (.inr (.inr (.inl rfl))) hs h w

set_option maxRecDepth 100000 in
set_option maxHeartbeats 2000000 in
theorem lget_any (s : ByteArray) (hs : s.size ≤ 9223372036854775807) (w : World) : Calls Tryz.prog 28 #[.string s] w (GetIs s w) := by
  by_cases h0 : s = ⟨#[]⟩
  · subst h0
    go_enter Tryz.func28, Tryz.ntmps28
    go_wp2
    go_ret2
    exact get_none (lockGet_len (by decide)) (Below.refl _ _)
  obtain ⟨b, r, hbr⟩ : ∃ b r, s.data.toList = b :: r := by
    cases h : s.data.toList with
    | nil => exact absurd (by rw [← mk_data s, h]) h0
    | cons b r => exact ⟨b, r, rfl⟩
  have hf : firstB s = b.toNat := by unfold firstB; rw [hbr]; rfl
  have hsz : 0 < s.size := by rw [← data_len, hbr]; simp
  have hs0 : (s[0]'hsz) = b := by rw [byte_eq (i := 0) (j := 0) (hj := by rw [hbr]; simp) rfl]; simp [hbr]
  have hnil : (s.toList = []) = False := by rw [ByteArray.toList_eq, hbr]; simp
  have hemp : s.toList.isEmpty = false := by rw [ByteArray.toList_eq, hbr]; rfl
  have hb256 := b.toNat_lt
  obtain ⟨m, hm⟩ : ∃ m, b.toNat = m := ⟨_, rfl⟩
  rw [hm] at hf hb256
  have HF := Lib.hid hf
  have HBR := Lib.hid hbr
  clear hbr hf h0
  by_cases hm3 : 3 < m
  · go_enter Tryz.func28, Tryz.ntmps28
    go_wp2
    go_ret2
    exact get_none (lockGet_len (fun h => by have := h.2.1; rw [HF.out] at this; omega)) (Below.refl _ _)
  by_cases hlen : s.size = 1 + 8 * m
  case neg =>
    have hln : ((s.size : Int) != 1 + 8 * (m : Int)) = true := by rw [bne_iff_ne]; omega
    go_enter Tryz.func28, Tryz.ntmps28
    go_wp2
    go_ret2
    exact get_none (lockGet_len (fun h => hlen (by have := h.2.2; rw [HF.out] at this; exact this))) (Below.refl _ _)
  obtain ⟨i0, hi, hz0, hz1, hz2⟩ := info_parts info_br
  have HI := Lib.hid (And.intro hi (And.intro hz0 (And.intro hz1 hz2)))
  clear hi hz0 hz1 hz2
  go_enter Tryz.func28, Tryz.ntmps28
  go_wp2_with fail
  go_loopw [4, 5] (fun l i wr => ∃ k p : Nat, k ≤ m ∧ p = 1 + 8 * k ∧ i = .int .i64 p ∧ Below w.heap.size w wr ∧ wr.ownsRow w.heap.size 81 3 l k (brCells (brs s k))) (fun _ i _ => s.size + 8 - (intOf i).toNat)
  case atStart => exact ⟨0, 1, Nat.zero_le _, rfl, rfl, Below.refl _ _, World.ownsRow_nil _ _ _ _⟩
  case round =>
    obtain ⟨k, p, hk, hp, rfl, hbw, hown⟩ := hrel
    obtain ⟨a, c, rfl, -, -⟩ := ownsRow_shape hown
    by_cases hlt : k < m
    · have hpz : p < s.size := by omega
      have HW := Lib.hid hbw
      have HO := Lib.hid hown
      obtain ⟨tg, htg⟩ : ∃ tg, tg = getN s p 2 := ⟨_, rfl⟩
      obtain ⟨dl, hdl⟩ : ∃ dl, dl = getN s (p + 2) 2 := ⟨_, rfl⟩
      obtain ⟨hg, hhg⟩ : ∃ hg, hg = getN s (p + 4) 4 := ⟨_, rfl⟩
      have ht1 : tg < 65536 := htg ▸ getN_lt s _ 2
      have ht2 : dl < 65536 := hdl ▸ getN_lt s _ 2
      have ht3 : hg < 4294967296 := hhg ▸ getN_lt s _ 4
      have hx : brAt s k = ⟨tg, dl, hg⟩ := by
        unfold brAt
        rw [htg, hdl, hhg, hp, show 3 + 8 * k = 1 + 8 * k + 2 by omega, show 5 + 8 * k = 1 + 8 * k + 4 by omega]
      have HX := Lib.hid hx
      have n1 := fun (i : Int) (hi : i = p) w => number2 s i p hi hs (by omega) w
      have n2 := fun (i : Int) (hi : i = (p + 2 : Nat)) w => number2 s i (p + 2) hi hs (by omega) w
      have n3 := fun (i : Int) (hi : i = (p + 4 : Nat)) w => number4 s i (p + 4) hi hs (by omega) w
      rw [← htg] at n1
      rw [← hdl] at n2
      rw [← hhg] at n3
      have N1 := Lib.hid n1
      have N2 := Lib.hid n2
      have N3 := Lib.hid n3
      clear hbw hown n1 n2 n3 htg hdl hhg hx
      go_wp2_with fail
      refine (N1.out _ (by omega) _).mono ?_
      rintro e w1 ⟨rfl, hb1⟩
      have B1 := Lib.hid hb1
      clear hb1
      go_wp2_with fail
      refine (N2.out _ (by omega) _).mono ?_
      rintro e w2 ⟨rfl, hb2⟩
      have B2 := Lib.hid hb2
      clear hb2
      go_wp2_with fail
      refine (N3.out _ (by omega) _).mono ?_
      rintro e w3 ⟨rfl, hb3⟩
      have b1 := B1.out
      have b2 := B2.out
      have h12 := b1.trans (b2.mono b1.size)
      have h13 := h12.trans (hb3.mono h12.size)
      have hw3 := HW.out.trans (h13.mono HW.out.size)
      obtain ⟨e1, e2, e3, e4⟩ := HI.out
      obtain ⟨a', c', w4, hrun, hown4, hb4, -⟩ := append_el (P := Tryz.prog) Tryz.underlying77 e1 e2 e3 e4 rfl (ownsRow_below HO.out h13) #[.int .u16 tg, .int .u16 dl, .int .u32 hg] rfl (by simp [Value.oneCell']) (by rw [maxLen_eq]; omega) (by omega) hw3.size (ty := 77)
      have hfin : Below w.heap.size w w4 ∧ w4.ownsRow w.heap.size 81 3 (.slice a' (k + 1) c') (k + 1) (brCells (brs s (k + 1))) := by
        refine ⟨hw3.trans hb4, ?_⟩
        rw [brs_succ, HX.out]
        simpa [brCells] using hown4
      have HFIN := Lib.hid hfin
      have HR := Lib.hid hrun
      clear hfin hrun hown4 hb4 e1 e2 e3 e4 b1 b2 hb3 h12 h13 hw3
      go_wp2_with (at_builtin; refine wpList_append_run rfl (.tmp 32) (.tmp 48) 77 77 rfl rfl rfl HR.out ?_)
      go_roundw
      case rel => exact ⟨k + 1, p + 8, by omega, by omega, by go_num, HFIN.out.1, HFIN.out.2⟩
      case measure => simp [intOf]; omega
    · obtain rfl : k = m := by omega
      have hsl : SlAt rpBr wr (.slice a k c) (brs s k) := SlAt.of_br hown (fun x hx => by
        obtain ⟨i, _, rfl⟩ := List.mem_map.1 hx
        exact brAt_ok s i)
      have hob : ∀ j, (Value.slice a k c).ownBlock = some j → w.heap.size ≤ j := fun j hj => (hown.lt j hj).1
      have HOB := Lib.hid hob
      have HW := Lib.hid hbw
      have HS := Lib.hid hsl
      clear hbw hown hsl hob
      go_wp2_with fail
      refine (lput_any _ _ _ HS.out).mono ?_
      rintro e w1 ⟨rfl, hb1⟩
      have hw1 := HW.out.trans (hb1.mono HW.out.size)
      have hs1 := HS.out.below hb1
      have H1 := Lib.hid (And.intro hw1 hs1)
      clear hw1 hs1 hb1
      by_cases hk1 : k < 1
      · rw [lockPut_count (.inl (by rw [brs_len]; exact hk1))]
        go_wp2
        go_ret2
        exact get_none (lockGet_len (fun h => by have := h.1; rw [HF.out] at this; omega)) H1.out.1
      · have hok : okLen s := ⟨by rw [HF.out]; omega, by rw [HF.out]; omega, by rw [HF.out]; exact hlen⟩
        have HOK := Lib.hid hok
        clear hok
        cases hany : (brs s k).any tooHigh
        · rw [lockPut_ok (by rw [brs_len]; omega) hany]
          have HA := Lib.hid hany
          clear hany
          go_wp2
          go_ret2
          exact get_some (by have := lockGet_ok HOK.out (by rw [HF.out]; exact HA.out); rw [HF.out] at this; exact this) H1.out.2 H1.out.1 HOB.out
        · rw [lockPut_range (by rw [brs_len]; omega) hany]
          have HA := Lib.hid hany
          clear hany
          go_wp2
          go_ret2
          exact get_none (lockGet_high (by rw [HF.out]; exact HA.out)) H1.out.1

end Go.Proofs.YtelindgnkpfkiaaGreatDoor
end

section
/-
  Locks, the fourth part: the document's Get. Conditions: none beyond each theorem's own.
-/
namespace Go.Proofs.YtelindgnkpfkiaaGreatDoor
open Go.RowKit
set_option linter.unusedVariables false

def RGetIs (s : ByteArray) (w : World) (e : Ending) (w' : World) : Prop := ∃ v, e = .returned v ∧ SlAt rpBr w' v ((lockGet s).getD []) ∧ Below w.heap.size w w'
theorem rget_none {s : ByteArray} {w w' : World} (h : lockGet s = none) (hb : Below w.heap.size w w') : RGetIs s w (.returned (.slice none 0 0)) w' := by
  unfold RGetIs
  rw [h]
  exact ⟨_, rfl, sl_nil, hb⟩
theorem rget_some {s : ByteArray} {w w' : World} {l : List PBr} {v : Value} (h : lockGet s = some l) (hv : SlAt rpBr w' v l) (hb : Below w.heap.size w w') : RGetIs s w (.returned v) w' := by
  unfold RGetIs
  rw [h]
  exact ⟨_, rfl, hv, hb⟩

theorem rg2 (s : ByteArray) (i : Int) (p : Nat) (hi : i = p) (hs : s.size ≤ 9223372036854775807) (h : p + 2 ≤ s.size) (w : World) :
    Calls Tryz.prog 88 #[.string s, .int .i64 i, .int .i64 2] w fun e w' => e = .returned (.tuple #[.int .u64 (getN s p 2), .bool true]) ∧ w = w' := by subst hi; exact rget_yes s p 2 (.inr (.inl rfl)) hs h w
theorem rg4 (s : ByteArray) (i : Int) (p : Nat) (hi : i = p) (hs : s.size ≤ 9223372036854775807) (h : p + 4 ≤ s.size) (w : World) :
    Calls Tryz.prog 88 #[.string s, .int .i64 i, .int .i64 4] w fun e w' => e = .returned (.tuple #[.int .u64 (getN s p 4), .bool true]) ∧ w = w' := by subst hi; exact rget_yes s p 4 (.inr (.inr (.inl rfl))) hs h w

set_option maxRecDepth 100000 in
set_option maxHeartbeats 2000000 in
theorem rlget_any (s : ByteArray) (hs : s.size ≤ 9223372036854775807) (w : World) : Calls Tryz.prog 69 #[.string s] w (RGetIs s w) := by
  by_cases hz : s.size = 9 ∨ s.size = 17 ∨ s.size = 25
  case neg =>
    have h9 : ((s.size : Int) != 9) = true := by rw [bne_iff_ne]; omega
    have h17 : ((s.size : Int) != 17) = true := by rw [bne_iff_ne]; omega
    have h25 : ((s.size : Int) != 25) = true := by rw [bne_iff_ne]; omega
    have hno : ¬ okLen s := fun h => hz (by have := h.1; have := h.2.1; have := h.2.2; omega)
    have HNO := Lib.hid hno
    clear hno hz
    go_enter Tryz.func69, Tryz.ntmps69
    go_wp2
    go_ret
    exact rget_none (lockGet_len HNO.out) (Below.refl _ _)
  obtain ⟨m, hm1, hm3, hlen⟩ : ∃ m, 1 ≤ m ∧ m ≤ 3 ∧ s.size = 1 + 8 * m := by
    rcases hz with h | h | h
    · exact ⟨1, by omega, by omega, h⟩
    · exact ⟨2, by omega, by omega, h⟩
    · exact ⟨3, by omega, by omega, h⟩
  have hsz : 0 < s.size := by omega
  obtain ⟨b, r, hbr⟩ : ∃ b r, s.data.toList = b :: r := by
    cases h : s.data.toList with
    | nil => have := data_len s; rw [h] at this; simp at this; omega
    | cons b r => exact ⟨b, r, rfl⟩
  have hf : firstB s = b.toNat := by unfold firstB; rw [hbr]; rfl
  have hs0 : (s[0]'hsz) = b := by rw [byte_eq (i := 0) (j := 0) (hj := by rw [hbr]; simp) rfl]; simp [hbr]
  have hb256 := b.toNat_lt
  obtain ⟨q, hq⟩ : ∃ q, b.toNat = q := ⟨_, rfl⟩
  rw [hq] at hf hb256
  have HF := Lib.hid hf
  clear hbr hf
  have hdiv : ((s.size : Int) - 1).tdiv 8 = m := by rw [hlen]; rw [Int.tdiv_eq_ediv_of_nonneg (by omega)]; omega
  have key : ∀ t : Int, ((s.size : Int) = t) → (t = 9 ∨ t = 17 ∨ t = 25) → ((t != 9) = false ∨ ((t != 9) = true ∧ (t != 17) = false) ∨ ((t != 9) = true ∧ (t != 17) = true ∧ (t != 25) = false)) := by
    rintro t _ (rfl | rfl | rfl) <;> decide
  have hk := key _ rfl (by omega)
  have HLEN := Lib.hid hlen
  clear key hz hlen
  by_cases hqm : q = m
  case neg =>
    have hqn : ((q : Int) != m) = true := by rw [bne_iff_ne]; omega
    have hno : ¬ okLen s := fun h => hqm (by have := h.2.2; have := HLEN.out; rw [HF.out] at *; omega)
    have HNO := Lib.hid hno
    clear hno
    rcases hk with h1 | ⟨h1, h2⟩ | ⟨h1, h2, h3⟩
    all_goals
      go_enter Tryz.func69, Tryz.ntmps69
      go_wp2
      go_ret
      exact rget_none (lockGet_len HNO.out) (Below.refl _ _)
  subst hqm
  obtain ⟨i0, hi, hz0, hz1, hz2⟩ := info_parts info_br
  have HI := Lib.hid (And.intro hi (And.intro hz0 (And.intro hz1 hz2)))
  clear hi hz0 hz1 hz2
  rcases hk with h1 | ⟨h1, h2⟩ | ⟨h1, h2, h3⟩
  all_goals
    go_enter Tryz.func69, Tryz.ntmps69
    go_wp2_with fail
    go_loopw [4, 5, 6, 7, 8, 9, 10, 11] (fun l i _ _ _ _ _ _ wr => ∃ k : Nat, k ≤ q ∧ i = .int .i64 k ∧ Below w.heap.size w wr ∧ wr.ownsRow w.heap.size 81 3 l k (brCells (brs s k)) ∧ (brs s k).any tooHigh = false) (fun _ i _ _ _ _ _ _ _ => q - (intOf i).toNat)
    case atStart => exact ⟨0, Nat.zero_le _, rfl, Below.refl _ _, World.ownsRow_nil _ _ _ _, rfl⟩
    case round =>
      obtain ⟨k, hk, rfl, hbw, hown, hany⟩ := hrel
      obtain ⟨a, c, rfl, -, -⟩ := ownsRow_shape hown
      by_cases hlt : k < q
      · have hkz : 1 + 8 * k + 8 ≤ s.size := by have := HLEN.out; omega
        have HW := Lib.hid hbw
        have HO := Lib.hid hown
        have HA := Lib.hid hany
        obtain ⟨tg, htg⟩ : ∃ tg, tg = getN s (1 + 8 * k) 2 := ⟨_, rfl⟩
        obtain ⟨dl, hdl⟩ : ∃ dl, dl = getN s (3 + 8 * k) 2 := ⟨_, rfl⟩
        obtain ⟨hg, hhg⟩ : ∃ hg, hg = getN s (5 + 8 * k) 4 := ⟨_, rfl⟩
        have ht1 : tg < 65536 := htg ▸ getN_lt s _ 2
        have ht2 : dl < 65536 := hdl ▸ getN_lt s _ 2
        have ht3 : hg < 4294967296 := hhg ▸ getN_lt s _ 4
        have hx : brAt s k = ⟨tg, dl, hg⟩ := by unfold brAt; rw [htg, hdl, hhg]
        have HX := Lib.hid hx
        have n1 := fun (i : Int) (hi : i = (1 + 8 * k : Nat)) w => rg2 s i (1 + 8 * k) hi hs (by omega) w
        have n2 := fun (i : Int) (hi : i = (3 + 8 * k : Nat)) w => rg2 s i (3 + 8 * k) hi hs (by omega) w
        have n3 := fun (i : Int) (hi : i = (5 + 8 * k : Nat)) w => rg4 s i (5 + 8 * k) hi hs (by omega) w
        rw [← htg] at n1
        rw [← hdl] at n2
        rw [← hhg] at n3
        have N1 := Lib.hid n1
        have N2 := Lib.hid n2
        have N3 := Lib.hid n3
        clear hbw hown n1 n2 n3 htg hdl hhg hx hany
        go_wp2_with fail
        refine (N1.out _ (by omega) _).mono ?_
        rintro e w1 ⟨rfl, rfl⟩
        go_wp2_with fail
        refine (N2.out _ (by omega) _).mono ?_
        rintro e w2 ⟨rfl, rfl⟩
        go_wp2_with fail
        refine (N3.out _ (by omega) _).mono ?_
        rintro e w3 ⟨rfl, rfl⟩
        have hw3 := HW.out
        obtain ⟨e1, e2, e3, e4⟩ := HI.out
        obtain ⟨a', c', w4, hrun, hown4, hb4, -⟩ := append_el (P := Tryz.prog) Tryz.underlying77 e1 e2 e3 e4 rfl HO.out #[.int .u16 tg, .int .u16 dl, .int .u32 hg] rfl (by simp [Value.oneCell']) (by rw [maxLen_eq]; omega) (by omega) hw3.size (ty := 77)
        by_cases hh : 1000000 < hg
        · have hall : (brs s (firstB s)).any tooHigh = true := by
            rw [HF.out, List.any_eq_true]
            exact ⟨brAt s k, List.mem_map.2 ⟨k, List.mem_range.2 hlt, rfl⟩, by rw [HX.out]; simp [tooHigh, hh]⟩
          have HALL := Lib.hid hall
          have HW3 := Lib.hid hw3
          clear hrun hown4 hb4 e1 e2 e3 e4 hw3 hall
          go_wp2
          go_ret
          exact rget_none (lockGet_high HALL.out) HW3.out
        have hfin : Below w.heap.size w w4 ∧ w4.ownsRow w.heap.size 81 3 (.slice a' (k + 1) c') (k + 1) (brCells (brs s (k + 1))) ∧ (brs s (k + 1)).any tooHigh = false := by
          refine ⟨hw3.trans hb4, ?_, ?_⟩
          · rw [brs_succ, HX.out]
            simpa [brCells] using hown4
          · rw [brs_succ, HX.out, List.any_append, HA.out]
            simp [tooHigh]
            omega
        have HFIN := Lib.hid hfin
        have HR := Lib.hid hrun
        clear hfin hrun hown4 hb4 e1 e2 e3 e4 hw3
        go_wp2_with (at_builtin; refine wpList_append_run rfl (.tmp 65) (.tmp 73) 77 77 rfl rfl rfl HR.out ?_)
        go_roundw
        case rel => exact ⟨k + 1, by omega, by go_num, HFIN.out.1, HFIN.out.2.1, HFIN.out.2.2⟩
        case measure => simp [intOf]; omega
      · obtain rfl : k = q := by omega
        have hsl : SlAt rpBr wr (.slice a k c) (brs s k) := SlAt.of_br hown (fun x hx => by
          obtain ⟨i, _, rfl⟩ := List.mem_map.1 hx
          exact brAt_ok s i)
        have hok : okLen s := ⟨by rw [HF.out]; omega, by rw [HF.out]; omega, by rw [HF.out]; exact HLEN.out⟩
        have HW := Lib.hid hbw
        have HS := Lib.hid hsl
        have HA := Lib.hid hany
        have HOK := Lib.hid hok
        clear hbw hown hsl hany hok
        go_wp2
        go_ret
        exact rget_some (by have := lockGet_ok HOK.out (by rw [HF.out]; exact HA.out); rw [HF.out] at this; exact this) HS.out HW.out

end Go.Proofs.YtelindgnkpfkiaaGreatDoor
end

section
/-
  Locks, the fifth part: witnesses. Conditions: none beyond each theorem's own.
-/
namespace Go.Proofs.YtelindgnkpfkiaaGreatDoor
open Go.RowKit Go.BigFrame
set_option linter.unusedVariables false

/-- The branch and the tag of a witness. -/
def signedOf (ws : List ByteArray) : Option (Nat × Nat) :=
  match ws with
  | [x] => match x.data.toList with
    | [a, b, c] => if a.toNat < 3 then some (a.toNat, b.toNat + 256 * c.toNat) else none
    | _ => none
  | _ => none
def SignedIs (ws : List ByteArray) (w : World) (e : Ending) (w' : World) : Prop :=
  e = .returned (.tuple #[.int .i64 ((signedOf ws).getD (0, 0)).1, .int .u16 ((signedOf ws).getD (0, 0)).2, .int .i64 (if (signedOf ws).isSome then 0 else 4)]) ∧ Below w.heap.size w w'
theorem signed_none {ws : List ByteArray} {w w' : World} (h : signedOf ws = none) (hb : Below w.heap.size w w') : SignedIs ws w (.returned (.tuple #[.int .i64 0, .int .u16 0, .int .i64 4])) w' := by
  unfold SignedIs; rw [h]; exact ⟨rfl, hb⟩
theorem signed_some {ws : List ByteArray} {w w' : World} {n t : Nat} (h : signedOf ws = some (n, t)) (hb : Below w.heap.size w w') : SignedIs ws w (.returned (.tuple #[.int .i64 n, .int .u16 t, .int .i64 0])) w' := by
  unfold SignedIs; rw [h]; exact ⟨rfl, hb⟩
theorem signedOf_len {ws : List ByteArray} (h : ws.length ≠ 1) : signedOf ws = none := by
  unfold signedOf
  split
  · simp at h
  · rfl
theorem signedOf_size {x : ByteArray} (h : x.size ≠ 3) : signedOf [x] = none := by
  unfold signedOf
  dsimp only
  split
  · rename_i a b c hx
    exact absurd (by rw [← data_len, hx]; rfl) h
  · rfl
theorem signedOf_three {x : ByteArray} {a b c : UInt8} (h : x.data.toList = [a, b, c]) : signedOf [x] = if a.toNat < 3 then some (a.toNat, b.toNat + 256 * c.toNat) else none := by
  unfold signedOf
  dsimp only
  rw [h]
theorem three_of {x : ByteArray} (h : x.size = 3) : ∃ a b c, x.data.toList = [a, b, c] := by
  have hl := data_len x
  rw [h] at hl
  match hx : x.data.toList, hl with
  | [a, b, c], _ => exact ⟨a, b, c, rfl⟩
theorem get_at {x : ByteArray} {l : List UInt8} (h : x.data.toList = l) {i : Nat} (hi : i < x.size) (hl : i < l.length) : (x[i]'hi) = l[i] := by
  subst h; exact byte_eq rfl
theorem getN_three {x : ByteArray} {a b c : UInt8} (h : x.data.toList = [a, b, c]) : getN x 1 2 = b.toNat + 256 * c.toNat := by
  unfold getN
  rw [h]
  simp [leN]

set_option maxRecDepth 100000 in
set_option maxHeartbeats 1000000 in
theorem signed_any (v : Value) (ws : List ByteArray) (w : World) (hv : SlAt rpStr w v ws) : Calls Tryz.prog 76 #[v] w (SignedIs ws w) := by
  obtain ⟨a, c, rfl, hl1, hl2⟩ := hv.shape
  rw [maxLen_eq] at hl2
  by_cases h1 : ws.length = 1
  case neg =>
    have hne : ((ws.length : Int) != 1) = true := by rw [bne_iff_ne]; omega
    have hno := signedOf_len h1
    have HNO := Lib.hid hno
    clear hno hv h1
    go_enter Tryz.func76, Tryz.ntmps76
    go_wp2
    go_ret3
    exact signed_none HNO.out (Below.refl _ _)
  obtain ⟨x, rfl⟩ : ∃ x, ws = [x] := List.length_eq_one_iff.1 h1
  obtain ⟨b, o, x', rfl, hx', hxl, hc0⟩ := hv.str (i := 0) (by simp)
  obtain rfl : x = x' := by simpa using hx'
  rw [Nat.add_zero] at hc0
  have hne : (((([x] : List ByteArray).length : Nat) : Int) != 1) = false := by simp
  have hlen : ([x] : List ByteArray).length = 1 := rfl
  rw [hlen] at hl1 ⊢
  clear hv h1 hx' hne hlen
  by_cases h3 : x.size = 3
  case neg =>
    have hne : ((x.size : Int) != 3) = true := by rw [bne_iff_ne]; omega
    have hno := signedOf_size h3
    have HNO := Lib.hid hno
    clear hno h3
    go_enter Tryz.func76, Tryz.ntmps76
    go_wp2
    go_ret3
    exact signed_none HNO.out (Below.refl _ _)
  obtain ⟨p, q, r, hx⟩ := three_of h3
  have hs := signedOf_three hx
  have hsz : 0 < x.size := by omega
  have hx0 : (x[0]'hsz) = p := get_at hx hsz (by simp)
  have hgn := getN_three hx
  have hg1 := hgn ▸ getN_lt x 1 2
  have hn2 := fun w => number_any x 1 2 (.inr (.inl rfl)) hxl (by omega) w
  rw [hgn] at hn2
  have HN2 := Lib.hid hn2
  generalize hG : q.toNat + 256 * r.toNat = G at *
  have hp8 := p.toNat_lt
  obtain ⟨m, hm⟩ : ∃ m, p.toNat = m := ⟨_, rfl⟩
  rw [hm] at hs hp8
  have HS := Lib.hid hs
  clear hs hx hG hn2 hgn
  by_cases hm3 : m < 3
  case neg =>
    go_enter Tryz.func76, Tryz.ntmps76
    go_wp2
    go_ret3
    exact signed_none (by rw [HS.out, if_neg hm3]) (Below.refl _ _)
  have hsome : signedOf [x] = some (m, G) := by rw [HS.out, if_pos hm3]
  have HSOME := Lib.hid hsome
  clear hsome
  obtain ⟨C, hC⟩ : ∃ C : World → Prop, C = fun w' => Below w.heap.size w w' := ⟨_, rfl⟩
  have hlt := World.block_lt_of_cell? _ _ hc0
  have hk0 : ∀ x' : Kin C, x'.w.cell? ⟨b, o, none⟩ = some (.string x) := by
    intro ⟨x', h⟩; subst hC; exact (h.cell hlt).trans hc0
  have hstep : ∀ (x : Kin C) (w' : World), Below x.w.heap.size x.w w' → C w' := by
    intro ⟨x, h⟩ w' h2; subst hC; exact h.trans (h2.mono h.size)
  have HST := Lib.hid hstep
  have HC := Lib.hid hC
  clear hstep hC hlt
  go_enter Tryz.func76, Tryz.ntmps76
  go_wp2_with fail
  refine wp_region_kin C (by kernel_rfl) (by kernel_rfl) (by rw [HC.out]; exact (Below.refl _ _).drew) ?_
  intro hne
  repeat (first | (go_big_quiet_step ((rename_i x'; go_at_call 59; exact Calls.kin (HN2.out _) (HST.out x')))) | (quiet_step ((rename_i x'; go_at_call 59; exact Calls.kin (HN2.out _) (HST.out x')))))
  refine wpQuiet_nil ?_
  intro _ hw'
  obtain ⟨kx, hw''⟩ := hw'
  subst hw''
  have hget : ∀ y, C y → Below w.heap.size w y := by intro y h; rw [HC.out] at h; exact h
  have HF := Lib.hid (hget _ kx.has)
  clear hget
  go_wp2
  go_ret3
  exact signed_some HSOME.out HF.out

end Go.Proofs.YtelindgnkpfkiaaGreatDoor
end
