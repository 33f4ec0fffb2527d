/-
  Locks, the plain law: what is put is got again, and what is got is put as it was. Conditions: none beyond each theorem's own.
-/
import Derived.Test.YtmakghcoehkphaaLock15
namespace Go.Proofs.Ytmakghcoehkphaa
open Go.RowKit
set_option linter.unusedVariables false

theorem leN_leB (n : Nat) : ∀ k, n < 256 ^ k → leN (leB n k) = n := by
  have key : ∀ k, leN (leB n k) = n % 256 ^ k := by
    intro k
    induction k with
    | zero => simp [leB, leN, Nat.mod_one]
    | succ k ih =>
      rw [leB, leN_append, ih, leB_length]
      simp only [UInt8.toNat_ofNat']
      have h8 : (2 : Nat) ^ 8 = 256 := by decide
      have e : n % 256 ^ (k + 1) = n % 256 ^ k + 256 ^ k * (n / 256 ^ k % 256) := by rw [Nat.pow_succ, Nat.mod_mul]
      rw [e, h8, Nat.mul_comm (256 ^ k)]
  intro k h
  rw [key, Nat.mod_eq_of_lt h]
theorem leN_inj : ∀ {l m : List UInt8}, l.length = m.length → leN l = leN m → l = m
  | [], [], _, _ => rfl
  | a :: l, b :: m, h1, h2 => by
    simp only [leN] at h2
    have ha := a.toNat_lt
    have hb := b.toNat_lt
    have e1 : a.toNat = b.toNat := by omega
    have e2 : leN l = leN m := by omega
    rw [UInt8.toNat_inj.1 e1, leN_inj (by simpa using h1) e2]
theorem leB_leN {l : List UInt8} {k : Nat} (h : l.length = k) : leB (leN l) k = l := by
  refine leN_inj (by rw [leB_length, h]) ?_
  rw [leN_leB _ _ (by rw [← h]; exact leN_lt l)]

theorem putBr_len (x : PBr) : (putBr x).length = 8 := by simp [putBr, leB_length]
theorem drop_put : ∀ (A : List PBr) (i : Nat) (x : PBr), A[i]? = some x → ∃ r, (A.flatMap putBr).drop (8 * i) = putBr x ++ r
  | a :: A, 0, x, h => ⟨A.flatMap putBr, by
    have : a = x := by simpa using h
    subst this
    rfl⟩
  | a :: A, i + 1, x, h => by
    obtain ⟨r, hr⟩ := drop_put A i x (by simpa using h)
    refine ⟨r, ?_⟩
    rw [List.flatMap_cons, show 8 * (i + 1) = (putBr a).length + 8 * i by rw [putBr_len]; omega, ← List.drop_drop, List.drop_left]
    exact hr

theorem brAt_put {h : UInt8} {A : List PBr} {i : Nat} {x : PBr} (hx : A[i]? = some x) (hok : x.Ok) : brAt ⟨(h :: A.flatMap putBr).toArray⟩ i = x := by
  obtain ⟨r, hr⟩ := drop_put A i x hx
  obtain ⟨t, d, g⟩ := x
  obtain ⟨h1, h2, h3⟩ := hok
  dsimp only at h1 h2 h3
  have e0 : ∀ q, (h :: A.flatMap putBr).drop (1 + 8 * i + q) = (leB t 2 ++ leB d 2 ++ leB g 4 ++ r).drop q := by
    intro q
    rw [show 1 + 8 * i + q = (8 * i + q) + 1 by omega, List.drop_succ_cons, ← List.drop_drop, hr]
    rfl
  unfold brAt getN
  simp only []
  rw [show 1 + 8 * i = 1 + 8 * i + 0 by omega, show 3 + 8 * i = 1 + 8 * i + 2 by omega, show 5 + 8 * i = 1 + 8 * i + 4 by omega, e0, e0, e0]
  have a1 : ((leB t 2 ++ leB d 2 ++ leB g 4 ++ r).drop 0).take 2 = leB t 2 := by
    rw [List.drop_zero, List.append_assoc, List.append_assoc, List.take_append_of_le_length (by simp [leB_length]), List.take_of_length_le (by simp [leB_length])]
  have a2 : ((leB t 2 ++ leB d 2 ++ leB g 4 ++ r).drop 2).take 2 = leB d 2 := by
    rw [List.append_assoc, List.append_assoc, List.drop_append_of_le_length (by simp [leB_length]), List.drop_of_length_le (by simp [leB_length]), List.nil_append, List.take_append_of_le_length (by simp [leB_length]), List.take_of_length_le (by simp [leB_length])]
  have a3 : ((leB t 2 ++ leB d 2 ++ leB g 4 ++ r).drop 4).take 4 = leB g 4 := by
    rw [List.append_assoc, List.drop_append_of_le_length (by simp [leB_length]), List.drop_of_length_le (by simp [leB_length]), List.nil_append, List.take_append_of_le_length (by simp [leB_length]), List.take_of_length_le (by simp [leB_length])]
  rw [a1, a2, a3, leN_leB t 2 h1, leN_leB d 2 h2, leN_leB g 4 h3]

theorem lockPut_ok_inv {A : List PBr} {l : List UInt8} (h : lockPut A = (l, 0)) : 1 ≤ A.length ∧ A.length ≤ 3 ∧ A.any tooHigh = false ∧ l = leB A.length 1 ++ A.flatMap putBr := by
  unfold lockPut at h
  split at h
  · simp at h
  · rename_i h1
    split at h
    · simp at h
    · rename_i h2
      have h3 : leB A.length 1 ++ A.flatMap putBr = l := (Prod.mk.inj h).1
      exact ⟨by omega, by omega, by simpa using h2, h3.symm⟩

theorem lockGet_put {A : List PBr} {l : List UInt8} (hok : ∀ x ∈ A, x.Ok) (h : lockPut A = (l, 0)) : lockGet ⟨l.toArray⟩ = some A := by
  obtain ⟨h1, h3, hh, rfl⟩ := lockPut_ok_inv h
  have e1 : leB A.length 1 ++ A.flatMap putBr = UInt8.ofNat A.length :: A.flatMap putBr := by simp [leB]
  rw [e1]
  have hf : firstB ⟨(UInt8.ofNat A.length :: A.flatMap putBr).toArray⟩ = A.length := by
    unfold firstB
    simp
    omega
  have hb : brs ⟨(UInt8.ofNat A.length :: A.flatMap putBr).toArray⟩ A.length = A := by
    apply List.ext_getElem?
    intro i
    rcases Nat.lt_or_ge i A.length with hi | hi
    · have hx : A[i]? = some A[i] := List.getElem?_eq_getElem hi
      rw [hx]
      unfold brs
      rw [List.getElem?_map, List.getElem?_range hi]
      simp only [Option.map_some]
      rw [brAt_put hx (hok _ (List.getElem_mem hi))]
    · rw [List.getElem?_eq_none (by rw [brs_len]; omega), List.getElem?_eq_none (by omega)]
  have hok2 : okLen ⟨(UInt8.ofNat A.length :: A.flatMap putBr).toArray⟩ := by
    refine ⟨by rw [hf]; omega, by rw [hf]; omega, ?_⟩
    rw [hf]
    simp only [ByteArray.size, List.size_toArray, List.length_cons, putBrs_len]
    omega
  rw [lockGet_ok hok2 (by rw [hf, hb]; exact hh), hf, hb]

theorem put_brAt {s : ByteArray} {i : Nat} (h : 1 + 8 * i + 8 ≤ s.size) : putBr (brAt s i) = (s.data.toList.drop (1 + 8 * i)).take 8 := by
  unfold putBr brAt getN
  simp only []
  have hl : s.data.toList.length = s.size := data_len s
  rw [leB_leN (by rw [List.length_take, List.length_drop]; omega), leB_leN (by rw [List.length_take, List.length_drop]; omega), leB_leN (by rw [List.length_take, List.length_drop]; omega)]
  have d2 : s.data.toList.drop (3 + 8 * i) = (s.data.toList.drop (1 + 8 * i)).drop 2 := by rw [List.drop_drop]; congr 1; omega
  have d4 : s.data.toList.drop (5 + 8 * i) = (s.data.toList.drop (1 + 8 * i)).drop 4 := by rw [List.drop_drop]; congr 1; omega
  rw [d2, d4]
  generalize s.data.toList.drop (1 + 8 * i) = L
  have t8 : L.take 8 = L.take 2 ++ ((L.drop 2).take 2 ++ (L.drop 4).take 4) := by
    have e1 : L.take 8 = L.take 2 ++ (L.drop 2).take 6 := List.take_add (i := 2) (j := 6)
    have e2 : (L.drop 2).take 6 = (L.drop 2).take 2 ++ ((L.drop 2).drop 2).take 4 := List.take_add (i := 2) (j := 4)
    rw [e1, e2, List.drop_drop]
  rw [t8, List.append_assoc]

theorem put_brs {s : ByteArray} : ∀ n, 1 + 8 * n ≤ s.size → (brs s n).flatMap putBr = (s.data.toList.drop 1).take (8 * n)
  | 0, _ => by simp [brs]
  | n + 1, h => by
    rw [brs_succ, List.flatMap_append, put_brs n (by omega)]
    simp only [List.flatMap_cons, List.flatMap_nil, List.append_nil]
    rw [put_brAt (by omega), show 8 * (n + 1) = 8 * n + 8 by omega, List.take_add, List.drop_drop]

theorem lockPut_get {s : ByteArray} {l : List PBr} (h : lockGet s = some l) : lockPut l = (s.data.toList, 0) := by
  unfold lockGet at h
  split at h
  · rename_i hok
    obtain rfl : brs s (firstB s) = l := by simpa using h
    obtain ⟨⟨h1, h2, h3⟩, h4⟩ := hok
    rw [lockPut_ok (by rw [brs_len]; omega) h4, brs_len, put_brs _ (by omega)]
    congr 1
    have hl : s.data.toList.length = s.size := data_len s
    cases hs : s.data.toList with
    | nil => rw [hs] at hl; simp at hl; omega
    | cons b r =>
      rw [hs] at hl
      have hf : firstB s = b.toNat := by unfold firstB; rw [hs]; rfl
      rw [List.drop_succ_cons, List.drop_zero, List.take_of_length_le (by simp at hl; omega), hf]
      simp [leB]
  · cases h
theorem lockGet_oks {s : ByteArray} {l : List PBr} (h : lockGet s = some l) : ∀ x ∈ l, x.Ok := by
  intro x hx
  unfold lockGet at h
  split at h
  · obtain rfl : brs s (firstB s) = l := by simpa using h
    obtain ⟨i, _, rfl⟩ := List.mem_map.1 hx
    exact brAt_ok s i
  · cases h

end Go.Proofs.Ytmakghcoehkphaa
