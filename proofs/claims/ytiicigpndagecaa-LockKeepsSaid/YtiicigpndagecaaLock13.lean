/-
  Locks, the thirteenth part: is an input of another sequence than the last one there? Conditions: none beyond each theorem's own.
-/
import Derived.Test.YtiicigpndagecaaLock12
namespace Go.Proofs.Ytiicigpndagecaa
open Go.RowKit Go.BigFrame
set_option linter.unusedVariables false

def lastSeq (x : PIn) : Bool := decide (x.seq = 4294967295)
set_option maxRecDepth 100000 in
set_option maxHeartbeats 1000000 in
theorem ripe1_any (id : ByteArray) (idx s : Nat) (wa : Option Addr) (wn wc : Nat) (w : World) : Calls Try.prog 34 #[.agg #[.string id, .int .u32 idx, .int .u32 s, .slice wa wn wc]] w fun e w' => e = .returned (.bool (!decide (s = 4294967295))) ∧ Below w.heap.size w w' := by
  obtain ⟨bb, hbb⟩ : ∃ bb, ((s : Int) != 4294967295) = bb := ⟨_, rfl⟩
  have hd : (!decide (s = 4294967295)) = bb := by
    rw [← hbb]
    by_cases h : s = 4294967295
    · have : (s : Int) = 4294967295 := by omega
      rw [decide_eq_true h, this]; rfl
    · rw [decide_eq_false h]
      symm
      rw [Bool.not_false, bne_iff_ne]
      omega
  have HD := Lib.hid hd
  clear hd
  go_enter Try.func34, Try.ntmps34
  go_wp2
  go_ret
  exact ⟨ret_bool HD.out.symm, (Below.refl _ _).alloc (Nat.le_refl _) _⟩

set_option maxRecDepth 100000 in
set_option maxHeartbeats 2000000 in
theorem indexf_any (v : Value) (xs : List PIn) (w : World) (hv : SlAt rpIn w v xs) :
    Calls Try.prog 43 #[v, .func (.func 34) #[] #[]] w fun e w' => (∃ n : Int, e = .returned (.int .i64 n) ∧ decide (0 ≤ n) = !xs.all lastSeq) ∧ Below w.heap.size w w' := by
  obtain ⟨a, c, rfl, hl1, hl2⟩ := hv.shape
  rw [maxLen_eq] at hl2
  obtain ⟨n, hn⟩ : ∃ n, n = xs.length := ⟨_, rfl⟩
  rw [← hn] at hv hl1 ⊢
  have HN := Lib.hid hn
  clear hn
  go_enter Try.func43, Try.ntmps43
  go_wp2_with fail
  go_loopw [5, 8] (fun _ i wr => ∃ k : Nat, k ≤ n ∧ i = .int .i64 k ∧ Below w.heap.size w wr ∧ ∀ j x, j < k → xs[j]? = some x → lastSeq x = true) (fun _ i _ => n - (intOf i).toNat)
  case atStart => exact ⟨0, Nat.zero_le _, rfl, Below.refl _ _, fun j x hj => absurd hj (Nat.not_lt_zero _)⟩
  case round =>
    obtain ⟨k, hk, rfl, hbw, hsame⟩ := hrel
    have HS := Lib.hid hsame
    have HW := Lib.hid hbw
    by_cases hlt : k < n
    · obtain ⟨b, o, x, wv, rfl, hx, hseq, -, -, hwv, d0, d1, d2, d3⟩ := (hv.mono (below_cells hbw)).inp hlt
      obtain ⟨wa, wc, rfl, -, -⟩ := hwv.shape
      have HX := Lib.hid hx
      have HR := Lib.hid (ripe1_any x.id x.idx x.seq wa x.wit.length wc)
      cases hls : lastSeq x
      · have hdf : (!decide (x.seq = 4294967295)) = true := by rw [show decide (x.seq = 4294967295) = false from hls]; rfl
        rw [hdf] at HR
        have hall : xs.all lastSeq = false := by
          cases h : xs.all lastSeq
          · rfl
          · rw [List.all_eq_true] at h
            have := h x (List.mem_of_getElem? hx)
            rw [hls] at this
            cases this
        have HA := Lib.hid hall
        clear hx hseq hwv hbw hsame hv hdf hall hls
        go_wp2_with fail
        refine (HR.out _).mono ?_
        rintro e w1 ⟨rfl, hb1⟩
        have HB1 := Lib.hid (HW.out.trans (hb1.mono HW.out.size))
        clear hb1
        go_wp2
        go_ret
        exact ⟨⟨_, rfl, by rw [HA.out]; simp⟩, HB1.out⟩
      · have hdf : (!decide (x.seq = 4294967295)) = false := by rw [show decide (x.seq = 4294967295) = true from hls]; rfl
        rw [hdf] at HR
        have hnext : ∀ j y, j < k + 1 → xs[j]? = some y → lastSeq y = true := fun j y hj hy => by
          rcases Nat.lt_or_ge j k with h | h
          · exact HS.out j y h hy
          · obtain rfl : j = k := by omega
            rw [hx] at hy
            obtain rfl : x = y := Option.some.inj hy
            exact hls
        have HN2 := Lib.hid hnext
        clear hx hseq hwv hbw hsame hv hdf hnext hls
        go_wp2_with fail
        refine (HR.out _).mono ?_
        rintro e w1 ⟨rfl, hb1⟩
        have HB1 := Lib.hid (HW.out.trans (hb1.mono HW.out.size))
        clear hb1
        go_wp2
        go_roundw
        case rel => exact ⟨k + 1, by omega, by go_num, HB1.out, HN2.out⟩
        case measure => simp [intOf]; omega
    · obtain rfl : k = n := by omega
      have hall : xs.all lastSeq = true := by
        rw [List.all_eq_true]
        intro x hx
        obtain ⟨j, hj, rfl⟩ := List.getElem_of_mem hx
        exact hsame j _ (by rw [HN.out]; exact hj) (List.getElem?_eq_getElem hj)
      have HA := Lib.hid hall
      clear hsame hall hbw hv
      go_wp2
      go_ret
      exact ⟨⟨_, rfl, by rw [HA.out]; rfl⟩, HW.out⟩

set_option maxHeartbeats 2000000 in
theorem containsf_any (v : Value) (xs : List PIn) (w : World) (hv : SlAt rpIn w v xs) :
    Calls Try.prog 33 #[v, .func (.func 34) #[] #[]] w fun e w' => e = .returned (.bool (!xs.all lastSeq)) ∧ Below w.heap.size w w' := by
  have HI := Lib.hid (indexf_any v xs w hv)
  obtain ⟨a, c, rfl, hl1, hl2⟩ := hv.shape
  clear hv hl1 hl2
  generalize xs.length = n at *
  go_enter Try.func33, Try.ntmps33
  go_wp2_with fail
  refine HI.out.mono ?_
  rintro e w1 ⟨⟨m, rfl, hm⟩, hb1⟩
  have HM := Lib.hid hm
  clear hm
  go_wp2
  go_ret
  exact ⟨ret_bool HM.out, hb1⟩

end Go.Proofs.Ytiicigpndagecaa
