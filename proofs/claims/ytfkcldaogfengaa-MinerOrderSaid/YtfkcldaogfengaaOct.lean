/-
  Numbers in bytes, the lowest first: what the program's and the document's functions answer, as one plain function. Conditions: none.
-/
import Derived.Test.YtfkcldaogfengaaConv
namespace Go.Proofs.Ytfkcldaogfengaa
open Go.RowKit
set_option linter.unusedVariables false

theorem info_u8 : (Try.prog.info? 5).map (fun i => (i.zero, i.size, i.bytes)) = some (some (.int .u8 0), 1, 1) := by kernel_rfl

/-- The lowest bytes of a number. -/
def leB (n : Nat) : Nat → List UInt8
  | 0 => []
  | k + 1 => leB n k ++ [UInt8.ofNat (n / 256 ^ k)]
theorem u8_mod (m : Nat) : ((UInt8.ofNat m).toNat : Int) = (m : Int) % 256 := by simp
theorem leB_length (n k : Nat) : (leB n k).length = k := by induction k with | zero => rfl | succ k ih => simp [leB, ih]
def okSize (k : Nat) : Prop := k = 1 ∨ k = 2 ∨ k = 4 ∨ k = 8

/-- The first place of a number in a list, or -1. -/
def idxI (xs : List Int) (x : Int) : Int := match xs.findIdx? (fun y => x == y) with | some i => i | none => -1

set_option maxHeartbeats 400000 in
theorem index_any (b o c n : Nat) (xs : List Int) (x : Int) (w : World) (hn : xs.length = n) (hn2 : n ≤ 9223372036854775807) (hc : ∀ i, i < n → w.cell? ⟨b, o + i, none⟩ = some (.int .i64 (xs.getD i 0))) :
    Calls Try.prog 47 #[.slice (some ⟨b, o, none⟩) n c, .int .i64 x] w fun e w' => e = .returned (.int .i64 (idxI xs x)) ∧ w = w' := by
  go_enter Try.func47, Try.ntmps47
  have HN := Lib.hid hn
  clear hn
  go_wp2
  go_loop [8] (fun i => ∃ j : Nat, j ≤ n ∧ i = .int .i64 j ∧ ∀ t, t < j → (x == xs.getD t 0) = false) (fun i => n - (intOf i).toNat)
  case atStart => exact ⟨0, Nat.zero_le _, rfl, fun t ht => absurd ht (Nat.not_lt_zero _)⟩
  case round =>
    obtain ⟨j, hj, rfl, hno⟩ := hrel
    have HNO := Lib.hid hno
    clear hno
    by_cases hlt : j < n
    · have hcell := hc j hlt
      have HC := Lib.hid hc
      clear hc
      generalize hy : xs.getD j 0 = y at *
      have HY := Lib.hid hy
      clear hy
      cases hxy : (x == y)
      · go_wp2
        go_round
        case rel =>
          refine ⟨j + 1, by omega, by go_num, fun t ht => ?_⟩
          rcases Nat.lt_or_ge t j with h | h
          · exact HNO.out t h
          · rw [show t = j by omega, HY.out]; exact hxy
        case measure => simp [intOf]; omega
      · go_wp2
        go_ret
        refine ⟨ret_int ?_, rfl⟩
        have hjl : j < xs.length := by rw [HN.out]; exact hlt
        have hgd : ∀ t, (h : t < xs.length) → xs.getD t 0 = xs[t] := fun t h => by simp [List.getD, h]
        have : xs.findIdx? (fun y => x == y) = some j := by
          rw [List.findIdx?_eq_some_iff_getElem]
          refine ⟨hjl, ?_, fun t ht => ?_⟩
          · rw [← hgd j hjl, HY.out]; exact hxy
          · rw [← hgd t (by omega)]; simpa using HNO.out t ht
        unfold idxI
        rw [this]
    · clear hc
      go_wp2
      go_ret
      refine ⟨ret_int ?_, rfl⟩
      have hgd : ∀ t, (h : t < xs.length) → xs.getD t 0 = xs[t] := fun t h => by simp [List.getD, h]
      have : xs.findIdx? (fun y => x == y) = none := by
        rw [List.findIdx?_eq_none_iff]
        intro y hy
        obtain ⟨t, ht, rfl⟩ := List.getElem_of_mem hy
        rw [← hgd t ht]
        exact HNO.out t (by have := HN.out; omega)
      unfold idxI
      rw [this]

theorem idx_sizes (k : Int) : decide (0 ≤ idxI [1, 2, 4, 8] k) = (k == 1 || k == 2 || k == 4 || k == 8) := by
  unfold idxI
  simp only [List.findIdx?_cons, List.findIdx?_nil]
  by_cases h1 : k = 1
  · subst h1; rfl
  by_cases h2 : k = 2
  · subst h2; rfl
  by_cases h4 : k = 4
  · subst h4; rfl
  by_cases h8 : k = 8
  · subst h8; rfl
  · simp [h1, h2, h4, h8]

set_option maxHeartbeats 400000 in
theorem contains_any (b o c n : Nat) (xs : List Int) (x : Int) (w : World) (hn : xs.length = n) (hn2 : n ≤ 9223372036854775807) (hc : ∀ i, i < n → w.cell? ⟨b, o + i, none⟩ = some (.int .i64 (xs.getD i 0))) :
    Calls Try.prog 28 #[.slice (some ⟨b, o, none⟩) n c, .int .i64 x] w fun e w' => e = .returned (.bool (decide (0 ≤ idxI xs x))) ∧ w = w' := by
  have hi := index_any b o c n xs x w hn hn2 hc
  have HI := Lib.hid hi
  clear hi hc hn
  go_enter Try.func28, Try.ntmps28
  go_wp2_with (go_at_call 47; refine HI.out.mono ?_; rintro e w' ⟨rfl, rfl⟩)
  go_ret
  exact ⟨rfl, rfl⟩

theorem u64_half {m : Nat} (h : m < 18446744073709551616) : Value.int .u64 (IntKind.u64.wrap ((m : Int) / 256)) = .int .u64 ((m / 256 : Nat) : Int) := by
  congr 1
  rw [IntWalk.u64_in _ (by omega)]
  omega
theorem mk_one (l : List UInt8) (b : UInt8) : ByteArray.mk l.toArray ++ ByteArray.mk #[b] = ⟨(l ++ [b]).toArray⟩ := mk_mk l [b]
theorem one_byte (w : World) (m : Nat) : (convert 52 9 (.slice (some ⟨w.heap.size, 0, none⟩) 1 1)).run Try.prog (w.alloc (.cells #[.int .u8 ((m : Int) % 256)] 5)) =
    .ok (.string ⟨#[UInt8.ofNat m]⟩) (w.alloc (.cells #[.int .u8 ((m : Int) % 256)] 5)) := by
  have h : (w.alloc (.cells #[.int .u8 ((m : Int) % 256)] 5)).ownsRow 0 5 1 (.slice (some ⟨w.heap.size, 0, none⟩) 1 1) 1 (bytesOf [UInt8.ofNat m]) := by
    refine ⟨rfl, .inr ⟨w.heap.size, 1, _, rfl, Nat.zero_le _, heap_alloc_new w _, Nat.le_refl _, by rw [maxLen_eq]; omega, rfl, ?_⟩⟩
    simp [bytesOf]
  exact convert_bytes h

/-- The number that lies in some bytes. -/
def leN : List UInt8 → Nat
  | [] => 0
  | b :: r => b.toNat + 256 * leN r

/-- The number that lies at a place of a text. -/
def getN (s : ByteArray) (at_ k : Nat) : Nat := leN ((s.data.toList.drop at_).take k)

set_option maxRecDepth 100000 in
set_option maxHeartbeats 400000 in
theorem rput_any (n k : Nat) (hn : n < 18446744073709551616) (hk : okSize k) (w : World) :
    Calls Try.prog 64 #[.int .u64 n, .int .i64 k] w fun e w' => e = .returned (.string ⟨(leB n k).toArray⟩) ∧ Below w.heap.size w w' := by
  have hk8 : k ≤ 8 := by unfold okSize at hk; omega
  obtain ⟨B, hBe⟩ : ∃ B, B = w.heap.size := ⟨_, rfl⟩
  have HB := Lib.hid hBe
  have hb1 : Below B w w := Below.refl _ _
  clear hBe
  obtain ⟨i0, hi, hz0, hz1, hz2⟩ := info_parts info_u8
  have key : ∀ K : Nat, K = k → K ≤ 8 → (((K : Int) != 1) = false ∨ (((K : Int) != 1) = true ∧ ((K : Int) != 2) = false) ∨ (((K : Int) != 1) = true ∧ ((K : Int) != 2) = true ∧ ((K : Int) != 4) = false) ∨ (((K : Int) != 1) = true ∧ ((K : Int) != 2) = true ∧ ((K : Int) != 4) = true ∧ ((K : Int) != 8) = false)) := by
    rintro K rfl _
    rcases hk with rfl | rfl | rfl | rfl <;> decide
  have hq := key k rfl hk8
  clear key hk
  rcases hq with h1 | ⟨h1, h2⟩ | ⟨h1, h2, h3⟩ | ⟨h1, h2, h3, h4⟩
  all_goals
    go_enter Try.func64, Try.ntmps64
    go_wp2_with fail
    go_loopw [0, 5, 6] (fun m v i wr => ∃ j : Nat, j ≤ k ∧ i = .int .i64 j ∧ m = .int .u64 (n / 256 ^ j : Nat) ∧ Below B w wr ∧ v = .string ⟨(leB n j).toArray⟩) (fun _ _ i _ => k - (intOf i).toNat)
    case atStart => exact ⟨0, Nat.zero_le _, rfl, by simp, hb1, rfl⟩
    case round =>
      obtain ⟨j, hj, rfl, rfl, hbw, rfl⟩ := hrel
      have hsz := hbw.size
      have hpow : n / 256 ^ j < 18446744073709551616 := Nat.lt_of_le_of_lt (Nat.div_le_self _ _) hn
      by_cases hlt : j < k
      · have hone := one_byte wr (n / 256 ^ j)
        have hdd : n / 256 ^ j / 256 = n / 256 ^ (j + 1) := by rw [Nat.div_div_eq_div_mul, ← Nat.pow_succ]
        have HDD := Lib.hid hdd
        have hlb : leB n (j + 1) = leB n j ++ [UInt8.ofNat (n / 256 ^ j)] := rfl
        have HLB := Lib.hid hlb
        have HP := Lib.hid hpow
        have hll : ((leB n j).length : Int) ≤ 8 := by rw [leB_length]; omega
        clear hdd hlb hpow hn
        generalize n / 256 ^ j = m at *
        go_wp2
        go_roundw
        case rel => exact ⟨j + 1, by omega, by go_num, by rw [← HDD.out]; exact u64_half HP.out, hbw.alloc (by have := HB.out; omega) _, by rw [HLB.out, mk_one]⟩
        case measure => simp [intOf]; omega
      · have hje : j = k := by omega
        subst hje
        go_wp2
        go_ret
        exact ⟨rfl, by rw [← HB.out]; exact hbw⟩

theorem leN_lt (l : List UInt8) : leN l < 256 ^ l.length := by
  induction l with
  | nil => simp [leN]
  | cons b r ih =>
    simp only [leN, List.length_cons, Nat.pow_succ]
    have := b.toNat_lt
    omega

/-- The bytes from a place on. -/
def part (s : ByteArray) (i k : Nat) : List UInt8 := (s.data.toList.drop i).take k
theorem part_step {s : ByteArray} {i k : Nat} (h : i < s.size) : part s i (k + 1) = s.data.toList[i]'(by simpa using h) :: part s (i + 1) k := by
  unfold part
  rw [List.drop_eq_getElem_cons (by simpa using h), List.take_succ_cons]
theorem part_len {s : ByteArray} {i k : Nat} (h : i + k ≤ s.size) : (part s i k).length = k := by
  unfold part
  rw [List.length_take, List.length_drop, data_len]
  omega

theorem byte_eq {s : ByteArray} {i j : Nat} {hi : i < s.size} {hj : j < s.data.toList.length} (h : i = j) : s[i]'hi = s.data.toList[j]'hj := by subst h; rfl
theorem or_step {m b : Nat} (hm : m < 72057594037927936) (hb : b < 256) : Value.int .u64 (bits .or .u64 (IntKind.u64.wrap ((m : Int) * 256)) (IntKind.u64.wrap (b : Int))) = .int .u64 ((b + 256 * m : Nat) : Int) := by
  rw [IntWalk.u64_in _ (by omega), IntWalk.u64_in _ (by omega), show (m : Int) * 256 = ((2 ^ 8 * m : Nat) : Int) by omega, bits_or_u64_nat _ _ (by omega) (by omega), ← Nat.two_pow_add_eq_or_of_lt (by omega)]
  congr 2
  omega

theorem leN_append (l : List UInt8) (b : UInt8) : leN (l ++ [b]) = leN l + b.toNat * 256 ^ l.length := by
  induction l with
  | nil => simp [leN]
  | cons a r ih => simp only [List.cons_append, leN, ih, List.length_cons, Nat.pow_succ, Nat.mul_add]; rw [Nat.mul_left_comm 256, Nat.mul_comm (256 ^ r.length) 256]; omega
theorem part_snoc {s : ByteArray} {i k : Nat} (h : i + k < s.size) : part s i (k + 1) = part s i k ++ [s.data.toList[i + k]'(by simpa using h)] := by
  unfold part
  rw [List.take_succ_eq_append_getElem (by rw [List.length_drop, data_len]; omega)]
  simp

theorem rg_sum {m q b : Nat} (hm : m < q) (hq : q ≤ 256 ^ 7) (hb : b < 256) :
    Value.int .u64 (IntKind.u64.wrap ((m : Int) + IntKind.u64.wrap (IntKind.u64.wrap (b : Int) * IntKind.u64.wrap (q : Int)))) = .int .u64 ((m + b * q : Nat) : Int) := by
  have h1 : b * q ≤ 255 * q := Nat.mul_le_mul_right _ (by omega)
  have h3 : (b : Int) * (q : Int) = ((b * q : Nat) : Int) := by simp
  have h4 : q ≤ 72057594037927936 := hq
  clear hq
  rw [IntWalk.u64_in (b : Int) (by omega), IntWalk.u64_in (q : Int) (by omega), h3]
  obtain ⟨x, hx⟩ : ∃ x, x = b * q := ⟨_, rfl⟩
  rw [← hx] at h1 ⊢
  clear h3 hx
  rw [IntWalk.u64_in (x : Int) (by omega), IntWalk.u64_in _ (by omega), Int.natCast_add]
theorem rg_pow (q : Nat) : Value.int .u64 (IntKind.u64.wrap (IntKind.u64.wrap (q : Int) * 256)) = .int .u64 (IntKind.u64.wrap ((q * 256 : Nat) : Int)) := by
  have e : IntKind.u64.wrap (IntKind.u64.wrap (q : Int) * 256) = IntKind.u64.wrap ((q * 256 : Nat) : Int) := by
    rw [IntKind.wrap_u64, IntKind.wrap_u64, IntKind.wrap_u64]
    omega
  rw [e]

theorem size_tests {k : Nat} (hk : okSize k) : ((k : Int) != 1) = false ∨ (((k : Int) != 1) = true ∧ ((k : Int) != 2) = false) ∨ (((k : Int) != 1) = true ∧ ((k : Int) != 2) = true ∧ ((k : Int) != 4) = false) ∨ (((k : Int) != 1) = true ∧ ((k : Int) != 2) = true ∧ ((k : Int) != 4) = true ∧ ((k : Int) != 8) = false) := by
  rcases hk with rfl | rfl | rfl | rfl <;> decide

end Go.Proofs.Ytfkcldaogfengaa
