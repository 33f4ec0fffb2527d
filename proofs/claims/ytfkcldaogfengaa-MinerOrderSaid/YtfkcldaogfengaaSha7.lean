/-
  SHA-256: the padded text, by appends. Conditions: the text has no more than 2^40 bytes.
-/
import Derived.Test.YtfkcldaogfengaaShaP
namespace Go.Proofs.Ytfkcldaogfengaa
open Go.RowKit Go.BigFrame
set_option linter.unusedVariables false
set_option linter.unusedSimpArgs false

theorem app_byte {w : World} {B n : Nat} {v : Value} {l : List UInt8} (hown : w.ownsRow B 5 1 v n (bytesOf l)) (hl : n ≤ 2199023255552) (hB : B ≤ w.heap.size) (b : UInt8) (x : Int) (hx : (b.toNat : Int) = x) :
    ∃ a' c' w', (Builtin.append_ #[52, 52] 52 #[v, .slice (some ⟨w.heap.size, 0, none⟩) 1 1]).run Try.prog (w.alloc (.cells #[.int .u8 x] 5)) = .ok (.slice a' (n + 1) c') w' ∧
      w'.ownsRow B 5 1 (.slice a' (n + 1) c') (n + 1) (bytesOf (l ++ [b])) ∧ Below B w w' := by
  obtain ⟨i0, hi, hz0, hz1, hz2⟩ := info_parts info_u8b
  obtain ⟨a', c', w', hrun, hown', hbw', -⟩ := append_el (P := Try.prog) (t := 52) (ty := 52) Try.underlying52 hi hz0 hz1 hz2 rfl hown #[.int .u8 x] rfl (by simp [Value.oneCell']) (by rw [maxLen_eq]; omega) (by omega) hB
  refine ⟨a', c', w', hrun, ?_, hbw'⟩
  rw [bytesOf_append, show bytesOf [b] = [.int .u8 x] by simp [bytesOf, hx]]
  exact hown'

theorem be_get (n k t : Nat) (h : t < k) : (beL n k)[t]? = some (UInt8.ofNat (n / 256 ^ (k - 1 - t))) := by
  induction k generalizing t with
  | zero => omega
  | succ k ih =>
    cases t with
    | zero => simp [beL]
    | succ t =>
      show (beL n k)[t]? = _
      rw [ih t (by omega), show k + 1 - 1 - (t + 1) = k - 1 - t by omega]
theorem be_take (n k t : Nat) (h : t < k) : (beL n k).take (t + 1) = (beL n k).take t ++ [UInt8.ofNat (n / 256 ^ (k - 1 - t))] := by
  have hl : t < (beL n k).length := by rw [beL_len]; exact h
  rw [List.take_succ_eq_append_getElem hl]
  congr 2
  have := be_get n k t h
  rw [List.getElem?_eq_getElem hl] at this
  exact Option.some.inj this
theorem be_take_len (n k t : Nat) (h : t ≤ k) : ((beL n k).take t).length = t := by rw [List.length_take, beL_len]; omega

/-- Padding is complete just behind as many zeros. -/
theorem zeros_full (n j : Nat) (hj : j ≤ zerosOf n) : (n + 1 + j) % 64 = 56 ↔ j = zerosOf n := by
  unfold zerosOf at *
  omega

theorem take_at (s : ByteArray) (j : Nat) (h : j < s.size) : s.data.toList.take (j + 1) = s.data.toList.take j ++ [s[j]] := by
  have hl : j < s.data.toList.length := by simpa using h
  rw [List.take_succ_eq_append_getElem hl]
  rfl
theorem shr_eight (n q k : Nat) (hk : q = k) : ((UInt8.ofNat (n / q)).toNat : Int) = (n : Int) / (k : Int) % 256 := by
  subst hk
  rw [UInt8.toNat_ofNat']
  omega

def PadIs (s : ByteArray) (w : World) (e : Ending) (w' : World) : Prop := ∃ v, e = .returned v ∧ Below w.heap.size w w' ∧ w'.ownsRow w.heap.size 5 1 v (padL s.data.toList).length (bytesOf (padL s.data.toList))
set_option maxRecDepth 100000 in
set_option maxHeartbeats 1000000 in
theorem pad_any (s : ByteArray) (hs : s.size ≤ 1099511627776) (w : World) : Calls Try.prog 80 #[.string s] w (PadIs s w) := by
  obtain ⟨l, hl⟩ : ∃ l, l = s.data.toList := ⟨_, rfl⟩
  have hlen : l.length = s.size := by rw [hl]; simp
  obtain ⟨B, hB⟩ : ∃ B, B = w.heap.size := ⟨_, rfl⟩
  have HL := Lib.hid hl
  have HN := Lib.hid hlen
  have HB := Lib.hid hB
  clear hlen hl hB
  go_enter Try.func80, Try.ntmps80
  go_wp2_with fail
  go_loopg [3, 4] s.size (fun g v i wr => ∃ j : Nat, g = s.size - j ∧ j ≤ s.size ∧ i = .int .i64 j ∧ Below B w wr ∧ wr.ownsRow B 5 1 v j (bytesOf (l.take j)))
  case atStart => exact ⟨0, rfl, Nat.zero_le _, rfl, by rw [HB.out]; exact Below.refl _ _, World.ownsRow_nil _ _ _ _⟩
  case round =>
    rename World => wo
    obtain ⟨j, hgj, hj, rfl, hbw, hown⟩ := hrel
    have HGJ := Lib.hid hgj
    have HBW := Lib.hid hbw
    have hsz := hbw.size
    rw [← HB.out] at hsz
    by_cases hlt : j < s.size
    · obtain ⟨a', c', w', hrun, hown', hbw'⟩ := app_byte hown (by omega) hsz s[j] _ rfl
      obtain ⟨a5, c5, rfl, -, -⟩ := ownsRow_shape hown
      have HR := Lib.hid hrun
      have HO := Lib.hid hown'
      have HBW2 := Lib.hid hbw'
      clear hrun hown' hbw' hgj hbw hown
      go_wp2_with (at_builtin; refine wpList_append_run rfl (.tmp 13) (.tmp 17) 52 52 rfl rfl rfl HR.out ?_)
      go_roundg (s.size - (j + 1))
      case measure => have := HGJ.out; omega
      case rel =>
        refine ⟨j + 1, rfl, by omega, by go_num, HBW.out.trans HBW2.out, ?_⟩
        have h := HO.out
        rw [HL.out] at h ⊢
        rw [take_at s j hlt]
        exact h
    · obtain rfl : j = s.size := by omega
      rw [List.take_of_length_le (by rw [HN.out]; omega)] at hown
      obtain ⟨a', c', w1, hrun, hown', hbw'⟩ := app_byte hown (by omega) hsz 128 128 rfl
      obtain ⟨a5, c5, rfl, -, -⟩ := ownsRow_shape hown
      have HR := Lib.hid hrun
      have HO := Lib.hid hown'
      have HBW2 := Lib.hid (HBW.out.trans hbw')
      clear hrun hown' hbw' hgj hbw hown HGJ HBW hsz hlt hj
      go_wp2_with (at_builtin; refine wpList_append_run rfl (.tmp 19) (.tmp 20) 52 52 rfl rfl rfl HR.out ?_)
      go_loopg [3] (zerosOf s.size) (fun g v wr => ∃ j : Nat, g = zerosOf s.size - j ∧ j ≤ zerosOf s.size ∧ Below B w wr ∧ wr.ownsRow B 5 1 v (s.size + 1 + j) (bytesOf (l ++ 128 :: List.replicate j 0)))
      case atStart => exact ⟨0, rfl, Nat.zero_le _, HBW2.out, HO.out⟩
      case round =>
        clear HO HBW2 HR
        rename World => wo2
        obtain ⟨j, hgj, hj, hbw, hown⟩ := hrel
        have HGJ := Lib.hid hgj
        have HBW := Lib.hid hbw
        have hsz := hbw.size
        have hz := zerosOf_le s.size
        have hfull := zeros_full s.size j hj
        rw [← HB.out] at hsz
        by_cases hlt : j = zerosOf s.size
        · have h56 : ((s.size + 1 + j : Nat) : Int) % 64 = 56 := by have := hfull.2 hlt; omega
          obtain ⟨a5, c5, rfl, -, -⟩ := ownsRow_shape hown
          have HOWN := Lib.hid hown
          obtain ⟨X, hX⟩ : ∃ X, X = l ++ 128 :: List.replicate j 0 := ⟨_, rfl⟩
          have hXl : X.length = s.size + 1 + j := by rw [hX]; simp [HN.out]; omega
          obtain ⟨m, hm⟩ : ∃ m, m = s.size + 1 + j := ⟨_, rfl⟩
          rw [← hX] at hown
          have HOW := Lib.hid hown
          have HX := Lib.hid hX
          have HXL := Lib.hid hXl
          have HM := Lib.hid hm
          have HLT := Lib.hid hlt
          clear hown hX hXl hm hgj hbw hfull
          rw [← HM.out] at h56 HOW HXL ⊢
          have hmb : m ≤ 1099511627776 + 64 := by rw [HM.out]; omega
          clear hj hlt HOWN
          go_wp2_with fail
          clear h56
          go_loopg [3, 6] 8 (fun g v i wr => ∃ t : Nat, g = 8 - t ∧ t ≤ 8 ∧ i = .int .i64 (7 - (t : Int)) ∧ Below B w wr ∧ wr.ownsRow B 5 1 v (m + t) (bytesOf (X ++ (beL (s.size * 8) 8).take t)))
          case atStart => exact ⟨0, rfl, by omega, rfl, HBW.out, by simpa using HOW.out⟩
          case round =>
            clear HOW HBW
            rename World => wo3
            obtain ⟨t, hgt, ht, rfl, hbw, hown⟩ := hrel
            have HGT := Lib.hid hgt
            have HBW := Lib.hid hbw
            have hsz := hbw.size
            rw [← HB.out] at hsz
            by_cases ht8 : t < 8
            · obtain rfl | rfl | rfl | rfl | rfl | rfl | rfl | rfl : t = 0 ∨ t = 1 ∨ t = 2 ∨ t = 3 ∨ t = 4 ∨ t = 5 ∨ t = 6 ∨ t = 7 := by omega
              · generalize hM : m + 0 = M at *
                obtain ⟨a', c', w', hrun, hown', hbw'⟩ := app_byte hown (by omega) hsz (UInt8.ofNat (s.size * 8 / 256 ^ (8 - 1 - 0))) ((s.size : Int) * 8 / 72057594037927936) (by rw [shr_eight _ _ 72057594037927936 (by decide)]; omega)
                rw [List.append_assoc, ← be_take _ _ _ ht8] at hown'
                obtain ⟨a6, c6, rfl, -, -⟩ := ownsRow_shape hown
                have hM2 : m + (0 + 1) = M + 1 := by omega
                have HR := Lib.hid hrun
                have HO := Lib.hid hown'
                have HBW2 := Lib.hid hbw'
                have HM2 := Lib.hid hM2
                have HM := Lib.hid hM
                have hMb : M ≤ 2199023255552 := by omega
                clear hrun hown' hbw' hgt hbw hown hM2 hM
                rw [show (7 - ((0 : Nat) : Int)) = 7 from rfl]
                go_wp2_with (at_builtin; refine wpList_append_run rfl (.tmp 37) (.tmp 44) 52 52 rfl rfl rfl HR.out ?_)
                go_roundg (8 - (0 + 1))
                case measure => have := HGT.out; omega
                case rel => exact ⟨0 + 1, rfl, by omega, by rfl, HBW.out.trans HBW2.out, by rw [HM2.out]; exact HO.out⟩
              · generalize hM : m + 1 = M at *
                obtain ⟨a', c', w', hrun, hown', hbw'⟩ := app_byte hown (by omega) hsz (UInt8.ofNat (s.size * 8 / 256 ^ (8 - 1 - 1))) ((s.size : Int) * 8 / 281474976710656) (by rw [shr_eight _ _ 281474976710656 (by decide)]; omega)
                rw [List.append_assoc, ← be_take _ _ _ ht8] at hown'
                obtain ⟨a6, c6, rfl, -, -⟩ := ownsRow_shape hown
                have hM2 : m + (1 + 1) = M + 1 := by omega
                have HR := Lib.hid hrun
                have HO := Lib.hid hown'
                have HBW2 := Lib.hid hbw'
                have HM2 := Lib.hid hM2
                have HM := Lib.hid hM
                have hMb : M ≤ 2199023255552 := by omega
                clear hrun hown' hbw' hgt hbw hown hM2 hM
                rw [show (7 - ((1 : Nat) : Int)) = 6 from rfl]
                go_wp2_with (at_builtin; refine wpList_append_run rfl (.tmp 37) (.tmp 44) 52 52 rfl rfl rfl HR.out ?_)
                go_roundg (8 - (1 + 1))
                case measure => have := HGT.out; omega
                case rel => exact ⟨1 + 1, rfl, by omega, by rfl, HBW.out.trans HBW2.out, by rw [HM2.out]; exact HO.out⟩
              · generalize hM : m + 2 = M at *
                obtain ⟨a', c', w', hrun, hown', hbw'⟩ := app_byte hown (by omega) hsz (UInt8.ofNat (s.size * 8 / 256 ^ (8 - 1 - 2))) ((s.size : Int) * 8 / 1099511627776) (by rw [shr_eight _ _ 1099511627776 (by decide)]; omega)
                rw [List.append_assoc, ← be_take _ _ _ ht8] at hown'
                obtain ⟨a6, c6, rfl, -, -⟩ := ownsRow_shape hown
                have hM2 : m + (2 + 1) = M + 1 := by omega
                have HR := Lib.hid hrun
                have HO := Lib.hid hown'
                have HBW2 := Lib.hid hbw'
                have HM2 := Lib.hid hM2
                have HM := Lib.hid hM
                have hMb : M ≤ 2199023255552 := by omega
                clear hrun hown' hbw' hgt hbw hown hM2 hM
                rw [show (7 - ((2 : Nat) : Int)) = 5 from rfl]
                go_wp2_with (at_builtin; refine wpList_append_run rfl (.tmp 37) (.tmp 44) 52 52 rfl rfl rfl HR.out ?_)
                go_roundg (8 - (2 + 1))
                case measure => have := HGT.out; omega
                case rel => exact ⟨2 + 1, rfl, by omega, by rfl, HBW.out.trans HBW2.out, by rw [HM2.out]; exact HO.out⟩
              · generalize hM : m + 3 = M at *
                obtain ⟨a', c', w', hrun, hown', hbw'⟩ := app_byte hown (by omega) hsz (UInt8.ofNat (s.size * 8 / 256 ^ (8 - 1 - 3))) ((s.size : Int) * 8 / 4294967296 % 256) (by rw [shr_eight _ _ 4294967296 (by decide)]; omega)
                rw [List.append_assoc, ← be_take _ _ _ ht8] at hown'
                obtain ⟨a6, c6, rfl, -, -⟩ := ownsRow_shape hown
                have hM2 : m + (3 + 1) = M + 1 := by omega
                have HR := Lib.hid hrun
                have HO := Lib.hid hown'
                have HBW2 := Lib.hid hbw'
                have HM2 := Lib.hid hM2
                have HM := Lib.hid hM
                have hMb : M ≤ 2199023255552 := by omega
                clear hrun hown' hbw' hgt hbw hown hM2 hM
                rw [show (7 - ((3 : Nat) : Int)) = 4 from rfl]
                go_wp2_with (at_builtin; refine wpList_append_run rfl (.tmp 37) (.tmp 44) 52 52 rfl rfl rfl HR.out ?_)
                go_roundg (8 - (3 + 1))
                case measure => have := HGT.out; omega
                case rel => exact ⟨3 + 1, rfl, by omega, by rfl, HBW.out.trans HBW2.out, by rw [HM2.out]; exact HO.out⟩
              · generalize hM : m + 4 = M at *
                obtain ⟨a', c', w', hrun, hown', hbw'⟩ := app_byte hown (by omega) hsz (UInt8.ofNat (s.size * 8 / 256 ^ (8 - 1 - 4))) ((s.size : Int) * 8 / 16777216 % 256) (by rw [shr_eight _ _ 16777216 (by decide)]; omega)
                rw [List.append_assoc, ← be_take _ _ _ ht8] at hown'
                obtain ⟨a6, c6, rfl, -, -⟩ := ownsRow_shape hown
                have hM2 : m + (4 + 1) = M + 1 := by omega
                have HR := Lib.hid hrun
                have HO := Lib.hid hown'
                have HBW2 := Lib.hid hbw'
                have HM2 := Lib.hid hM2
                have HM := Lib.hid hM
                have hMb : M ≤ 2199023255552 := by omega
                clear hrun hown' hbw' hgt hbw hown hM2 hM
                rw [show (7 - ((4 : Nat) : Int)) = 3 from rfl]
                go_wp2_with (at_builtin; refine wpList_append_run rfl (.tmp 37) (.tmp 44) 52 52 rfl rfl rfl HR.out ?_)
                go_roundg (8 - (4 + 1))
                case measure => have := HGT.out; omega
                case rel => exact ⟨4 + 1, rfl, by omega, by rfl, HBW.out.trans HBW2.out, by rw [HM2.out]; exact HO.out⟩
              · generalize hM : m + 5 = M at *
                obtain ⟨a', c', w', hrun, hown', hbw'⟩ := app_byte hown (by omega) hsz (UInt8.ofNat (s.size * 8 / 256 ^ (8 - 1 - 5))) ((s.size : Int) * 8 / 65536 % 256) (by rw [shr_eight _ _ 65536 (by decide)]; omega)
                rw [List.append_assoc, ← be_take _ _ _ ht8] at hown'
                obtain ⟨a6, c6, rfl, -, -⟩ := ownsRow_shape hown
                have hM2 : m + (5 + 1) = M + 1 := by omega
                have HR := Lib.hid hrun
                have HO := Lib.hid hown'
                have HBW2 := Lib.hid hbw'
                have HM2 := Lib.hid hM2
                have HM := Lib.hid hM
                have hMb : M ≤ 2199023255552 := by omega
                clear hrun hown' hbw' hgt hbw hown hM2 hM
                rw [show (7 - ((5 : Nat) : Int)) = 2 from rfl]
                go_wp2_with (at_builtin; refine wpList_append_run rfl (.tmp 37) (.tmp 44) 52 52 rfl rfl rfl HR.out ?_)
                go_roundg (8 - (5 + 1))
                case measure => have := HGT.out; omega
                case rel => exact ⟨5 + 1, rfl, by omega, by rfl, HBW.out.trans HBW2.out, by rw [HM2.out]; exact HO.out⟩
              · generalize hM : m + 6 = M at *
                obtain ⟨a', c', w', hrun, hown', hbw'⟩ := app_byte hown (by omega) hsz (UInt8.ofNat (s.size * 8 / 256 ^ (8 - 1 - 6))) ((s.size : Int) * 8 / 256 % 256) (by rw [shr_eight _ _ 256 (by decide)]; omega)
                rw [List.append_assoc, ← be_take _ _ _ ht8] at hown'
                obtain ⟨a6, c6, rfl, -, -⟩ := ownsRow_shape hown
                have hM2 : m + (6 + 1) = M + 1 := by omega
                have HR := Lib.hid hrun
                have HO := Lib.hid hown'
                have HBW2 := Lib.hid hbw'
                have HM2 := Lib.hid hM2
                have HM := Lib.hid hM
                have hMb : M ≤ 2199023255552 := by omega
                clear hrun hown' hbw' hgt hbw hown hM2 hM
                rw [show (7 - ((6 : Nat) : Int)) = 1 from rfl]
                go_wp2_with (at_builtin; refine wpList_append_run rfl (.tmp 37) (.tmp 44) 52 52 rfl rfl rfl HR.out ?_)
                go_roundg (8 - (6 + 1))
                case measure => have := HGT.out; omega
                case rel => exact ⟨6 + 1, rfl, by omega, by rfl, HBW.out.trans HBW2.out, by rw [HM2.out]; exact HO.out⟩
              · generalize hM : m + 7 = M at *
                obtain ⟨a', c', w', hrun, hown', hbw'⟩ := app_byte hown (by omega) hsz (UInt8.ofNat (s.size * 8 / 256 ^ (8 - 1 - 7))) ((s.size : Int) * 8 % 256) (by rw [shr_eight _ _ 1 (by decide)]; omega)
                rw [List.append_assoc, ← be_take _ _ _ ht8] at hown'
                obtain ⟨a6, c6, rfl, -, -⟩ := ownsRow_shape hown
                have hM2 : m + (7 + 1) = M + 1 := by omega
                have HR := Lib.hid hrun
                have HO := Lib.hid hown'
                have HBW2 := Lib.hid hbw'
                have HM2 := Lib.hid hM2
                have HM := Lib.hid hM
                have hMb : M ≤ 2199023255552 := by omega
                clear hrun hown' hbw' hgt hbw hown hM2 hM
                rw [show (7 - ((7 : Nat) : Int)) = 0 from rfl]
                go_wp2_with (at_builtin; refine wpList_append_run rfl (.tmp 37) (.tmp 44) 52 52 rfl rfl rfl HR.out ?_)
                go_roundg (8 - (7 + 1))
                case measure => have := HGT.out; omega
                case rel => exact ⟨7 + 1, rfl, by omega, by rfl, HBW.out.trans HBW2.out, by rw [HM2.out]; exact HO.out⟩
            · obtain rfl : t = 8 := by omega
              obtain ⟨a6, c6, rfl, -, -⟩ := ownsRow_shape hown
              have hp : padL l = X ++ beL (s.size * 8) 8 := by rw [HX.out, HLT.out, ← HN.out]; rfl
              have hpl : (padL l).length = m + 8 := by rw [hp, List.length_append, HXL.out, beL_len]
              rw [List.take_of_length_le (by rw [beL_len]; omega), ← hp] at hown
              have hfin : PadIs s w (.returned (.slice a6 (m + 8) c6)) wo3 := by
                refine ⟨_, rfl, ?_, ?_⟩
                · rw [← HB.out]; exact hbw
                · rw [← HB.out, ← HL.out, hpl]; exact hown
              have HF := Lib.hid hfin
              clear hfin hown hbw hp hpl
              go_wp2_with fail
              go_ret
              exact HF.out
        · have h56 : ¬ ((s.size + 1 + j : Nat) : Int) % 64 = 56 := by intro h; exact hlt (hfull.1 (by omega))
          obtain ⟨a', c', w', hrun, hown', hbw'⟩ := app_byte hown (by omega) hsz 0 0 rfl
          obtain ⟨a5, c5, rfl, -, -⟩ := ownsRow_shape hown
          have HR := Lib.hid hrun
          have HO := Lib.hid hown'
          have HBW2 := Lib.hid hbw'
          clear hrun hown' hbw' hgj hbw hown hfull
          go_wp2_with (at_builtin; refine wpList_append_run rfl (.tmp 26) (.tmp 27) 52 52 rfl rfl rfl HR.out ?_)
          go_roundg (zerosOf s.size - (j + 1))
          case measure => have := HGJ.out; omega
          case rel =>
            refine ⟨j + 1, rfl, by omega, HBW.out.trans HBW2.out, ?_⟩
            have h := HO.out
            rw [List.append_assoc, List.cons_append, ← List.replicate_succ'] at h
            exact h
end Go.Proofs.Ytfkcldaogfengaa
