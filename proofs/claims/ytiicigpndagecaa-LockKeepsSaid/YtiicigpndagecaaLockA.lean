/-
  LockApart: the walk. Conditions: none.
-/
import Derived.Test.YtiicigpndagecaaLockP
namespace Go.Proofs.Ytiicigpndagecaa
open Go.RowKit Go.BigFrame
set_option linter.unusedVariables false

theorem sl_ok {w : World} {v : Value} {l : List PBr} (h : SlAt rpBr w v l) : ∀ x ∈ l, x.Ok := by
  intro x hx
  obtain ⟨i, hi, rfl⟩ := List.getElem_of_mem hx
  obtain ⟨a, c, rfl, _, _⟩ := h.shape
  obtain ⟨b, o, y, _, hy, hok, _⟩ := h.br hi
  rw [List.getElem?_eq_getElem hi] at hy
  obtain rfl := Option.some.inj hy
  exact hok

set_option maxRecDepth 100000 in
set_option maxHeartbeats 4000000 in
theorem lockApart_walk (va : Value) (xs : List PBr) (vb : Value) (ys : List PBr) (s : ByteArray) (w : World) (ha : SlAt rpBr w va xs) (hb : SlAt rpBr w vb ys) (hs : s.size ≤ 9223372036854775807) :
    Calls Try.prog 7 #[va, vb, .string s] w fun e w' => e = .returned (.bool true) ∧ Below w.heap.size w w' := by
  obtain ⟨a, c, rfl, hl1, hl2⟩ := ha.shape
  obtain ⟨a', c', rfl, hl1', hl2'⟩ := hb.shape
  rw [maxLen_eq] at hl2 hl2'
  have HA := Lib.hid ha
  have HB := Lib.hid hb
  clear ha hb
  generalize xs.length = n at *
  generalize ys.length = n' at *
  obtain ⟨m, hm⟩ : ∃ m : Nat, m = min n 4 := ⟨_, rfl⟩
  obtain ⟨m', hm'⟩ : ∃ m : Nat, m = min n' 4 := ⟨_, rfl⟩
  have hmi : min (n : Int) 4 = (m : Int) := by omega
  have hmi' : min (n' : Int) 4 = (m' : Int) := by omega
  have hmn : m ≤ n := by omega
  have hmn' : m' ≤ n' := by omega
  have HA2 := Lib.hid (HA.out.cut hmn)
  have HB2 := Lib.hid (HB.out.cut hmn')
  have hokA : ∀ x ∈ xs.take m, x.Ok := sl_ok HA2.out
  have hokB : ∀ x ∈ ys.take m', x.Ok := sl_ok HB2.out
  clear hm hm'
  generalize xs.take m = A at *
  generalize ys.take m' = B at *
  obtain ⟨x, ex, hpa⟩ : ∃ x ex, lockPut A = (x, ex) := ⟨_, _, rfl⟩
  obtain ⟨y, ey, hpb⟩ : ∃ x ex, lockPut B = (x, ex) := ⟨_, _, rfl⟩
  have hga : ex = 0 → lockGet ⟨x.toArray⟩ = some A := fun h => lockGet_put hokA (by rw [hpa, h])
  have hgb : ey = 0 → lockGet ⟨y.toArray⟩ = some B := fun h => lockGet_put hokB (by rw [hpb, h])
  have hsame : A = B → (⟨x.toArray⟩ : ByteArray) = ⟨y.toArray⟩ := fun h => by rw [h, hpb] at hpa; rw [(Prod.mk.inj hpa).1]
  have hCA := fun w' (hw' : Below w.heap.size w w') => (lput_any (.slice a m c) A w' (HA2.out.below hw')).mono (R' := fun e w'' => e = .returned (.tuple #[.string ⟨x.toArray⟩, .int .i64 ex]) ∧ Below w'.heap.size w' w'') fun e w'' ⟨h1, h2⟩ => ⟨by rw [h1, hpa], h2⟩
  have hCB := fun w' (hw' : Below w.heap.size w w') => (lput_any (.slice a' m' c') B w' (HB2.out.below hw')).mono (R' := fun e w'' => e = .returned (.tuple #[.string ⟨y.toArray⟩, .int .i64 ey]) ∧ Below w'.heap.size w' w'') fun e w'' ⟨h1, h2⟩ => ⟨by rw [h1, hpb], h2⟩
  generalize (⟨x.toArray⟩ : ByteArray) = sx at *
  generalize (⟨y.toArray⟩ : ByteArray) = sy at *
  have heq := fun w' (hw' : Below w.heap.size w w') => eqbr_any (.slice a m c) (.slice a' m' c') A B w' (HA2.out.below hw') (HB2.out.below hw')
  have HCA := Lib.hid hCA
  have HCB := Lib.hid hCB
  have HEQ := Lib.hid heq
  have HGA := Lib.hid hga
  have HGB := Lib.hid hgb
  have HSAME := Lib.hid hsame
  clear hCA hCB heq hga hgb hsame hokA hokB hpa hpb
  go_enter Try.func7, Try.ntmps7
  go_wp2_with fail
  go_quiet (fail)
  have hq : Below w.heap.size w (w.drewN nq) := ⟨rfl, rfl, rfl, Nat.le_refl _, fun _ _ => rfl⟩
  have HQ := Lib.hid hq
  clear hq
  go_wp2_with fail
  refine (HCA.out _ HQ.out).mono ?_
  rintro e w1 ⟨rfl, hb1⟩
  have H1 := Lib.hid (HQ.out.trans (hb1.mono HQ.out.size))
  clear hb1
  go_wp2_with fail
  refine (HCB.out _ H1.out).mono ?_
  rintro e w2 ⟨rfl, hb2⟩
  have H2 := Lib.hid (H1.out.trans (hb2.mono H1.out.size))
  clear hb2
  have hrest : ∀ w3, Below w.heap.size w w3 → ∃ l g, Calls Try.prog 16 #[.string s] w3 (fun e w' => ∃ v, e = .returned (.tuple #[v, .int .i64 g]) ∧ SlAt rpBr w' v l ∧ Below w3.heap.size w3 w') ∧ (g = 4 ∨ (g = 0 ∧ lockPut l = (s.data.toList, 0))) := by
    intro w3 h3
    cases hg : lockGet s with
    | none => exact ⟨[], 4, (lget_any s hs w3).mono fun e w' ⟨v, h1, h2, h3, _⟩ => ⟨v, by rw [h1, hg]; rfl, by rw [hg] at h2; exact h2, h3⟩, .inl rfl⟩
    | some l => exact ⟨l, 0, (lget_some hg hs w3).mono fun e w' ⟨v, h1, h2, _, h3⟩ => ⟨v, h1, h2, h3⟩, .inr ⟨rfl, lockPut_get hg⟩⟩
  have HREST := Lib.hid hrest
  clear hrest hs
  -- what stands behind the first test, from any world on
  by_cases hex : ex = 0
  · by_cases hey : ey = 0
    · subst hex
      subst hey
      by_cases hAB : A = B
      · have hsx : sx = sy := HSAME.out hAB
        subst hsx
        rw [decide_eq_true hAB] at HEQ
        go_wp2_with fail
        refine (HEQ.out _ H2.out).mono ?_
        rintro e w3 ⟨rfl, hb3⟩
        have H3 := Lib.hid (H2.out.trans (hb3.mono H2.out.size))
        clear hb3
        obtain ⟨l, g, hcall, hg⟩ := HREST.out _ H3.out
        have HCALL := Lib.hid hcall
        clear hcall
        go_wp2_with fail
        refine HCALL.out.mono ?_
        rintro e w4 ⟨v, rfl, hv, hb4⟩
        have H4 := Lib.hid (H3.out.trans (hb4.mono H3.out.size))
        obtain ⟨va, vc, rfl, -, -⟩ := hv.shape
        have HV := Lib.hid hv
        clear hb4 hv
        rcases hg with rfl | ⟨rfl, hput⟩
        · go_wp2_with fail
          refine (wakes_any _).mono ?_
          rintro e w5 ⟨rfl, hb5⟩
          have H5 := Lib.hid (H4.out.trans (hb5.mono H4.out.size))
          clear hb5
          go_wp2
          go_ret
          exact ⟨rfl, H5.out⟩
        · have hp := lput_any _ _ _ HV.out
          have hp2 := hp.mono (R' := fun e w'' => e = .returned (.tuple #[.string s, .int .i64 0]) ∧ Below w4.heap.size w4 w'') fun e w'' ⟨h1, h2⟩ => ⟨by rw [h1, hput], h2⟩
          have HP := Lib.hid hp2
          clear hp hp2 hput
          go_wp2_with fail
          refine HP.out.mono ?_
          rintro e w5 ⟨rfl, hb5⟩
          have H5 := Lib.hid (H4.out.trans (hb5.mono H4.out.size))
          clear hb5
          go_wp2_with fail
          refine (wakes_any _).mono ?_
          rintro e w6 ⟨rfl, hb6⟩
          have H6 := Lib.hid (H5.out.trans (hb6.mono H5.out.size))
          clear hb6
          go_wp2
          go_ret
          exact ⟨rfl, H6.out⟩
      · have hne : (sx.toList == sy.toList) = false := by
          rw [beq_eq_false_iff_ne]
          intro h
          rw [ByteArray.toList_eq, ByteArray.toList_eq] at h
          have hss : sx = sy := by rw [← mk_data sx, ← mk_data sy, h]
          have h1 := HGA.out rfl
          rw [hss, HGB.out rfl] at h1
          exact hAB (Option.some.inj h1).symm
        have hne2 : ¬ (sx.toList = sy.toList) := by simpa using hne
        rw [decide_eq_false hAB] at HEQ
        clear hAB
        go_wp2_with fail
        refine (HEQ.out _ H2.out).mono ?_
        rintro e w3 ⟨rfl, hb3⟩
        have H3 := Lib.hid (H2.out.trans (hb3.mono H2.out.size))
        clear hb3 hne hne2
        obtain ⟨l, g, hcall, hg⟩ := HREST.out _ H3.out
        have HCALL := Lib.hid hcall
        clear hcall
        go_wp2_with fail
        refine HCALL.out.mono ?_
        rintro e w4 ⟨v, rfl, hv, hb4⟩
        have H4 := Lib.hid (H3.out.trans (hb4.mono H3.out.size))
        obtain ⟨va, vc, rfl, -, -⟩ := hv.shape
        have HV := Lib.hid hv
        clear hb4 hv
        rcases hg with rfl | ⟨rfl, hput⟩
        · go_wp2_with fail
          refine (wakes_any _).mono ?_
          rintro e w5 ⟨rfl, hb5⟩
          have H5 := Lib.hid (H4.out.trans (hb5.mono H4.out.size))
          clear hb5
          go_wp2
          go_ret
          exact ⟨rfl, H5.out⟩
        · have hp := lput_any _ _ _ HV.out
          have hp2 := hp.mono (R' := fun e w'' => e = .returned (.tuple #[.string s, .int .i64 0]) ∧ Below w4.heap.size w4 w'') fun e w'' ⟨h1, h2⟩ => ⟨by rw [h1, hput], h2⟩
          have HP := Lib.hid hp2
          clear hp hp2 hput
          go_wp2_with fail
          refine HP.out.mono ?_
          rintro e w5 ⟨rfl, hb5⟩
          have H5 := Lib.hid (H4.out.trans (hb5.mono H4.out.size))
          clear hb5
          go_wp2_with fail
          refine (wakes_any _).mono ?_
          rintro e w6 ⟨rfl, hb6⟩
          have H6 := Lib.hid (H5.out.trans (hb6.mono H5.out.size))
          clear hb6
          go_wp2
          go_ret
          exact ⟨rfl, H6.out⟩
    · have hb0 : (ey == 0) = false := by rw [beq_eq_false_iff_ne]; exact hey
      subst hex
      have H3 := Lib.hid H2.out
      obtain ⟨w3, hw3⟩ : ∃ w3, w3 = w2 := ⟨_, rfl⟩
      subst hw3
      obtain ⟨l, g, hcall, hg⟩ := HREST.out _ H3.out
      have HCALL := Lib.hid hcall
      clear hcall
      go_wp2_with fail
      refine HCALL.out.mono ?_
      rintro e w4 ⟨v, rfl, hv, hb4⟩
      have H4 := Lib.hid (H3.out.trans (hb4.mono H3.out.size))
      obtain ⟨va, vc, rfl, -, -⟩ := hv.shape
      have HV := Lib.hid hv
      clear hb4 hv
      rcases hg with rfl | ⟨rfl, hput⟩
      · go_wp2_with fail
        refine (wakes_any _).mono ?_
        rintro e w5 ⟨rfl, hb5⟩
        have H5 := Lib.hid (H4.out.trans (hb5.mono H4.out.size))
        clear hb5
        go_wp2
        go_ret
        exact ⟨rfl, H5.out⟩
      · have hp := lput_any _ _ _ HV.out
        have hp2 := hp.mono (R' := fun e w'' => e = .returned (.tuple #[.string s, .int .i64 0]) ∧ Below w4.heap.size w4 w'') fun e w'' ⟨h1, h2⟩ => ⟨by rw [h1, hput], h2⟩
        have HP := Lib.hid hp2
        clear hp hp2 hput
        go_wp2_with fail
        refine HP.out.mono ?_
        rintro e w5 ⟨rfl, hb5⟩
        have H5 := Lib.hid (H4.out.trans (hb5.mono H4.out.size))
        clear hb5
        go_wp2_with fail
        refine (wakes_any _).mono ?_
        rintro e w6 ⟨rfl, hb6⟩
        have H6 := Lib.hid (H5.out.trans (hb6.mono H5.out.size))
        clear hb6
        go_wp2
        go_ret
        exact ⟨rfl, H6.out⟩
  · have hb0 : (ex == 0) = false := by rw [beq_eq_false_iff_ne]; exact hex
    have H3 := Lib.hid H2.out
    obtain ⟨w3, hw3⟩ : ∃ w3, w3 = w2 := ⟨_, rfl⟩
    subst hw3
    obtain ⟨l, g, hcall, hg⟩ := HREST.out _ H3.out
    have HCALL := Lib.hid hcall
    clear hcall
    go_wp2_with fail
    refine HCALL.out.mono ?_
    rintro e w4 ⟨v, rfl, hv, hb4⟩
    have H4 := Lib.hid (H3.out.trans (hb4.mono H3.out.size))
    obtain ⟨va, vc, rfl, -, -⟩ := hv.shape
    have HV := Lib.hid hv
    clear hb4 hv
    rcases hg with rfl | ⟨rfl, hput⟩
    · go_wp2_with fail
      refine (wakes_any _).mono ?_
      rintro e w5 ⟨rfl, hb5⟩
      have H5 := Lib.hid (H4.out.trans (hb5.mono H4.out.size))
      clear hb5
      go_wp2
      go_ret
      exact ⟨rfl, H5.out⟩
    · have hp := lput_any _ _ _ HV.out
      have hp2 := hp.mono (R' := fun e w'' => e = .returned (.tuple #[.string s, .int .i64 0]) ∧ Below w4.heap.size w4 w'') fun e w'' ⟨h1, h2⟩ => ⟨by rw [h1, hput], h2⟩
      have HP := Lib.hid hp2
      clear hp hp2 hput
      go_wp2_with fail
      refine HP.out.mono ?_
      rintro e w5 ⟨rfl, hb5⟩
      have H5 := Lib.hid (H4.out.trans (hb5.mono H4.out.size))
      clear hb5
      go_wp2_with fail
      refine (wakes_any _).mono ?_
      rintro e w6 ⟨rfl, hb6⟩
      have H6 := Lib.hid (H5.out.trans (hb6.mono H5.out.size))
      clear hb6
      go_wp2
      go_ret
      exact ⟨rfl, H6.out⟩

end Go.Proofs.Ytiicigpndagecaa
