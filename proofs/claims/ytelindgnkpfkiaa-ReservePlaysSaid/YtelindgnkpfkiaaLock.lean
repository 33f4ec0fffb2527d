/-
  Locks: what the program's functions answer, as plain functions. Conditions: none beyond each theorem's own.
-/
import Derived.Test.YtelindgnkpfkiaaBld
import Derived.Test.YtelindgnkpfkiaaTxd
import Derived.Test.YtelindgnkpfkiaaTail
import Derived.BigQuiet
import Derived.Deep.QuietTactic
import Derived.Deep.RegionHeld3
namespace Go.Proofs.Ytelindgnkpfkiaa
open Go.RowKit Go.BigFrame
set_option linter.unusedVariables false

attribute [go_sem] leB_length
@[go_sem] theorem bytes_append (l m : List UInt8) : ({ data := l.toArray } : ByteArray) ++ { data := m.toArray } = { data := (l ++ m).toArray } := by
  apply ByteArray.ext; simp

/-- A branch as plain data. -/
structure PBr where
  tag : Nat
  delay : Nat
  height : Nat
structure PBr.Ok (x : PBr) : Prop where
  tag : x.tag < 65536
  delay : x.delay < 65536
  height : x.height < 4294967296
def rpBr : Rp PBr := ⟨3, fun _ cs (x : PBr) => cs = [.int .u16 x.tag, .int .u16 x.delay, .int .u32 x.height] ∧ x.Ok, fun _ h => h⟩

theorem SlAt.br {w : World} {a : Option Addr} {n c i : Nat} {xs : List PBr} (h : SlAt rpBr w (.slice a n c) xs) (hi : i < n) : ∃ (b o : Nat) (x : PBr), a = some ⟨b, o, none⟩ ∧ xs[i]? = some x ∧ x.Ok ∧
    w.cell? ⟨b, o + i * 3, none⟩ = some (.int .u16 x.tag) ∧ w.cell? ⟨b, o + i * 3 + 1, none⟩ = some (.int .u16 x.delay) ∧ w.cell? ⟨b, o + i * 3 + 2, none⟩ = some (.int .u32 x.height) := by
  obtain ⟨b, o, x, cs, h1, h2, h3, h4, h5, h6⟩ := h.at hi
  subst h5
  exact ⟨b, o, x, h1, h2, h6, h4 0 _ rfl, h4 1 _ rfl, h4 2 _ rfl⟩

def putBr (x : PBr) : List UInt8 := leB x.tag 2 ++ leB x.delay 2 ++ leB x.height 4
theorem putBrs_len (l : List PBr) : (l.flatMap putBr).length = 8 * l.length := by
  induction l with
  | nil => rfl
  | cons x l ih => simp only [List.flatMap_cons, List.length_append, ih, putBr, leB_length, List.length_cons]; omega
def tooHigh (x : PBr) : Bool := decide (1000000 < x.height)
def lockPut (l : List PBr) : List UInt8 × Int :=
  if l.length < 1 ∨ 3 < l.length then ([], 6) else if l.any tooHigh then ([], 3) else (leB l.length 1 ++ l.flatMap putBr, 0)
theorem lockPut_count {l : List PBr} (h : l.length < 1 ∨ 3 < l.length) : lockPut l = ([], 6) := by unfold lockPut; rw [if_pos h]
theorem lockPut_range {l : List PBr} (h : ¬ (l.length < 1 ∨ 3 < l.length)) (ha : l.any tooHigh = true) : lockPut l = ([], 3) := by unfold lockPut; rw [if_neg h, if_pos ha]
theorem lockPut_ok {l : List PBr} (h : ¬ (l.length < 1 ∨ 3 < l.length)) (ha : l.any tooHigh = false) : lockPut l = (leB l.length 1 ++ l.flatMap putBr, 0) := by unfold lockPut; rw [if_neg h, ha]; rfl
def LockPutIs (xs : List PBr) (w : World) (e : Ending) (w' : World) : Prop := e = .returned (.tuple #[.string ⟨(lockPut xs).1.toArray⟩, .int .i64 (lockPut xs).2]) ∧ Below w.heap.size w w'
theorem lockPut_is {xs : List PBr} {w w' : World} {l : List UInt8} {n : Int} (h : lockPut xs = (l, n)) (hb : Below w.heap.size w w') : LockPutIs xs w (.returned (.tuple #[.string ⟨l.toArray⟩, .int .i64 n])) w' := by
  unfold LockPutIs
  rw [h]
  exact ⟨rfl, hb⟩

set_option maxRecDepth 100000 in
set_option maxHeartbeats 1000000 in
theorem lput_any (v : Value) (xs : List PBr) (w : World) (hv : SlAt rpBr w v xs) : Calls Try.prog 24 #[v] w (LockPutIs xs w) := by
  obtain ⟨a, c, rfl, hl1, hl2⟩ := hv.shape
  rw [maxLen_eq] at hl2
  obtain ⟨n, hn⟩ : ∃ n, n = xs.length := ⟨_, rfl⟩
  rw [← hn] at hl1 hv ⊢
  have HN := Lib.hid hn
  clear hn
  by_cases h1 : n < 1
  · clear hv
    go_enter Try.func24, Try.ntmps24
    go_wp2
    go_ret2
    exact lockPut_is (lockPut_count (.inl (HN.out ▸ h1))) (Below.refl _ _)
  by_cases h3 : 3 < n
  · clear hv
    go_enter Try.func24, Try.ntmps24
    go_wp2
    go_ret2
    exact lockPut_is (lockPut_count (.inr (HN.out ▸ h3))) (Below.refl _ _)
  have hcnt : ¬ (xs.length < 1 ∨ 3 < xs.length) := by rw [← HN.out]; omega
  have HCNT := Lib.hid hcnt
  clear hcnt
  go_enter Try.func24, Try.ntmps24
  go_wp2_with fail
  refine (put_any n 1 (by omega) (.inl rfl) _).mono ?_
  rintro e w1 ⟨rfl, hb1⟩
  have hisb := isb_later (isb_new 103 5 w) hb1
  have hbl : Below w.heap.size w w1 := ((Below.refl _ _).alloc (Nat.le_refl _) _).trans (hb1.mono (by simp))
  obtain ⟨B, hB⟩ : ∃ B, B = w.heap.size := ⟨_, rfl⟩
  rw [← hB] at hisb hbl ⊢
  have HB := Lib.hid hB
  clear hB hb1
  go_wp2_with fail
  refine (bwrite_any B B [] ⟨(leB n 1).toArray⟩ w1 hisb (by simp [ByteArray.size, leB_length]) (by rw [HB.out]; exact hbl.size)).mono ?_
  rintro e w2 ⟨rfl, hisb2, hbl2⟩
  have hbw := hbl.trans hbl2
  simp only [List.nil_append] at hisb2
  clear hisb hbl hbl2
  go_wp2_with fail
  go_loopw [22] (fun i wr => ∃ k : Nat, k ≤ n ∧ i = .int .i64 k ∧ Below B w wr ∧ Lib.IsBuilder 103 5 B B (bytesOf (leB n 1 ++ (xs.take k).flatMap putBr)) wr ∧ (xs.take k).any tooHigh = false) (fun i _ => n - (intOf i).toNat)
  case atStart => exact ⟨0, Nat.zero_le _, rfl, hbw, by simpa using hisb2, by simp⟩
  case round =>
    obtain ⟨k, hk, rfl, hbw', hisb, hok⟩ := hrel
    by_cases hlt : k < n
    · obtain ⟨b, o, x, rfl, hx, hxo, hc0, hc1, hc2⟩ := (hv.mono (below_cells (HB.out ▸ hbw'))).br hlt
      obtain ⟨ht1, ht2, ht3⟩ := hxo
      obtain ⟨tg, dl, hg⟩ := x
      dsimp only at hc0 hc1 hc2 ht1 ht2 ht3
      by_cases hh : 1000000 < hg
      · have hany : xs.any tooHigh = true := by
          rw [List.any_eq_true]
          exact ⟨_, List.mem_of_getElem? hx, by simp [tooHigh, hh]⟩
        have HA := Lib.hid hany
        have hfin : Below w.heap.size w (wr.alloc (.cells #[.int .u16 tg, .int .u16 dl, .int .u32 hg] 77)) := (HB.out ▸ hbw').alloc (HB.out ▸ hbw').size _
        have HF := Lib.hid hfin
        clear hany hx hisb hbw hisb2 hok hfin hbw'
        go_wp2
        go_ret2
        exact lockPut_is (lockPut_range HCNT.out HA.out) HF.out
      · have HX := Lib.hid hx
        have HO := Lib.hid hok
        obtain ⟨hBB, hBl⟩ := isb_lt hisb
        clear hx hok hbw hisb2 hv
        obtain ⟨w0, hw0⟩ : ∃ w0, w0 = wr.alloc (.cells #[.int .u16 tg, .int .u16 dl, .int .u32 hg] 77) := ⟨_, rfl⟩
        obtain ⟨C, hC⟩ : ∃ C : World → Prop, C = fun w' => Below (wr.heap.size + 1) w0 w' := ⟨_, rfl⟩
        have hk0 : ∀ x : Kin C, x.w.cell? ⟨wr.heap.size, 0, none⟩ = some (.int .u16 tg) := by
          intro ⟨x, h⟩; subst hC; subst hw0; exact (h.cell (by simp)).trans (by rw [cell_at (heap_alloc_new wr _)]; rfl)
        have hk1 : ∀ x : Kin C, x.w.cell? ⟨wr.heap.size, 1, none⟩ = some (.int .u16 dl) := by
          intro ⟨x, h⟩; subst hC; subst hw0; exact (h.cell (by simp)).trans (by rw [cell_at (heap_alloc_new wr _)]; rfl)
        have hk2 : ∀ x : Kin C, x.w.cell? ⟨wr.heap.size, 2, none⟩ = some (.int .u32 hg) := by
          intro ⟨x, h⟩; subst hC; subst hw0; exact (h.cell (by simp)).trans (by rw [cell_at (heap_alloc_new wr _)]; rfl)
        have hstep : ∀ (x : Kin C) (w' : World), Below x.w.heap.size x.w w' → C w' := by
          intro ⟨x, h⟩ w' h2; subst hC; exact h.trans (h2.mono (by have := h.size; rw [hw0] at this; simpa using this))
        have HS := Lib.hid hstep
        have HC := Lib.hid hC
        have HW := Lib.hid hw0
        have HI := Lib.hid hisb
        have HBW := Lib.hid hbw'
        clear hstep hC hisb hbw'
        go_wp2_with fail
        rw [← hw0]
        clear hw0
        refine wp_region_last_kin C 14 _ rfl rfl (by kernel_rfl) (by kernel_rfl) (by kernel_rfl) (by kernel_rfl) (by kernel_rfl) (by kernel_rfl) (by rw [HC.out]; exact (Below.refl _ _).drew) ?_
        intro hne
        dsimp only [List.set, struck]
        repeat (first | (go_big_quiet_step (first | (rename_i x; go_at_call_of 39 tg; exact Calls.kin (put2_any tg (by omega) _) (HS.out x)) | (rename_i x; go_at_call_of 39 dl; exact Calls.kin (put2_any dl (by omega) _) (HS.out x)) | (rename_i x; go_at_call_of 39 hg; exact Calls.kin (put4_any hg (by omega) _) (HS.out x)))) | (quiet_step (first | (rename_i x; go_at_call_of 39 tg; exact Calls.kin (put2_any tg (by omega) _) (HS.out x)) | (rename_i x; go_at_call_of 39 dl; exact Calls.kin (put2_any dl (by omega) _) (HS.out x)) | (rename_i x; go_at_call_of 39 hg; exact Calls.kin (put4_any hg (by omega) _) (HS.out x)))))
        refine wpQuiet_nil ?_
        intro _ hw'
        obtain ⟨kx, hw''⟩ := hw'
        subst hw''
        obtain ⟨wx, hxc⟩ := kx
        rw [HC.out] at hxc
        rw [HW.out] at hxc
        have hbx : Below wr.heap.size wr wx := ((Below.refl _ _).alloc (Nat.le_refl _) _).trans (hxc.mono (Nat.le_succ _))
        have hisb := isb_later HI.out hbx
        have hbwx : Below B w wx := HBW.out.trans (hbx.mono (Nat.le_of_lt hBl))
        have hBx : B ≤ wx.heap.size := Nat.le_trans (Nat.le_of_lt hBl) hbx.size
        have HBX := Lib.hid hbwx
        clear hbx hbwx hxc
        go_wp2_with fail
        refine (bwrite_any B B (leB n 1 ++ (xs.take k).flatMap putBr) ⟨(leB tg 2 ++ leB dl 2 ++ leB hg 4).toArray⟩ wx hisb (by simp only [ByteArray.size, List.length_append, leB_length, putBrs_len, List.length_take, List.size_toArray]; omega) hBx).mono ?_
        rintro e w3 ⟨rfl, hisb3, hb3⟩
        clear hisb hBx
        go_wp2_with fail
        go_roundw
        case rel =>
          refine ⟨k + 1, by omega, by go_num, HBX.out.trans hb3, ?_, ?_⟩
          · have : (xs.take (k + 1)).flatMap putBr = (xs.take k).flatMap putBr ++ (leB tg 2 ++ leB dl 2 ++ leB hg 4) := by
              rw [List.take_add_one, HX.out]; simp [putBr]
            rw [this, ← List.append_assoc]
            exact hisb3
          · rw [List.take_add_one, HX.out]
            simp [HO.out, tooHigh]
            omega
        case measure => simp [intOf]; omega
    · obtain rfl : k = n := by omega
      have hall : xs.any tooHigh = false := by rw [HN.out, List.take_length] at hok; exact hok
      have hbs : Lib.IsBuilder 103 5 B B (bytesOf (leB k 1 ++ xs.flatMap putBr)) wr := by rw [HN.out, List.take_length] at hisb; rw [HN.out]; exact hisb
      have HA := Lib.hid hall
      have HBW := Lib.hid hbw'
      have hBl := (isb_lt hbs).2
      clear hok hisb hall hv hbw hisb2 hbw'
      go_wp2_with fail
      refine (bstring_any B B (leB k 1 ++ xs.flatMap putBr) wr hbs (Nat.le_of_lt hBl)).mono ?_
      rintro e w3 ⟨rfl, hb3⟩
      go_wp2_with fail
      go_ret2
      have hp := lockPut_ok HCNT.out HA.out
      rw [← HN.out] at hp
      exact lockPut_is hp (by rw [← HB.out]; exact HBW.out.trans hb3)

end Go.Proofs.Ytelindgnkpfkiaa
