/-
  SHA-256 as a plain function of a list of bytes; its value at the text abc. Conditions: those named in each lemma.
-/
import Derived.Test.YtfkcldaogfengaaSha6
namespace Go.Proofs.Ytfkcldaogfengaa
open Go.RowKit
set_option linter.unusedVariables false
set_option linter.unusedSimpArgs false

def addSt (x y : St) : St := ⟨x.a + y.a, x.b + y.b, x.c + y.c, x.d + y.d, x.e + y.e, x.f + y.f, x.g + y.g, x.h + y.h⟩
def byL (l : List UInt8) (i : Nat) : W32 := BitVec.ofNat 32 (l.getD i 0).toNat
/-- A word of a block that begins at o. -/
def msgL (l : List UInt8) (o i : Nat) : W32 := ((((byL l (o + 4 * i)) <<< 8 ||| byL l (o + (4 * i + 1))) <<< 8 ||| byL l (o + (4 * i + 2))) <<< 8 ||| byL l (o + (4 * i + 3)))
def rounds (f : Nat → W32) (x : St) : Nat → St
  | 0 => x
  | i + 1 => rnd (rounds f x i) (kF i) (f i)
def blk (m : Nat → W32) (h : St) : St := addSt h (rounds (sch m 64) h 64)
def blks (l : List UInt8) : Nat → St
  | 0 => hSt
  | i + 1 => blk (msgL l (64 * i)) (blks l i)
def zerosOf (n : Nat) : Nat := (119 - n % 64) % 64
def padL (l : List UInt8) : List UInt8 := l ++ (128 :: List.replicate (zerosOf l.length) 0) ++ beL (l.length * 8) 8
def stL (h : St) : List UInt8 := beL h.a.toNat 4 ++ beL h.b.toNat 4 ++ beL h.c.toNat 4 ++ beL h.d.toNat 4 ++ beL h.e.toNat 4 ++ beL h.f.toNat 4 ++ beL h.g.toNat 4 ++ beL h.h.toNat 4
/-- The digest. -/
def sumL (l : List UInt8) : List UInt8 := stL (blks (padL l) ((padL l).length / 64))

theorem stL_len (h : St) : (stL h).length = 32 := by simp [stL, beL_len]
theorem sumL_len (l : List UInt8) : (sumL l).length = 32 := stL_len _
theorem padL_len (l : List UInt8) : (padL l).length = l.length + zerosOf l.length + 9 := by
  simp [padL, beL_len]; omega
theorem padL_blocks (l : List UInt8) : (padL l).length = 64 * ((padL l).length / 64) ∧ 0 < (padL l).length / 64 := by
  rw [padL_len]; unfold zerosOf; omega
theorem zerosOf_le (n : Nat) : zerosOf n ≤ 63 := by unfold zerosOf; omega

theorem msgW_ext (s : ByteArray) (o j : Nat) : msgW (s.extract o s.size) j = msgL s.data.toList o j := by
  have h : ∀ i, byteW (s.extract o s.size) i = byL s.data.toList (o + i) := by
    intro i
    unfold byteW byL
    congr 2
    have hd : (s.extract o s.size).data = s.data.extract o s.size := by simp
    rw [hd, Array.toList_extract]
    have hs2 : s.data.toList.length = s.size := by simp
    simp only [List.extract_eq_take_drop, List.getD_eq_getElem?_getD, List.getElem?_take, List.getElem?_drop]
    by_cases hlt : i < s.size - o
    · rw [if_pos hlt]
    · rw [if_neg hlt, List.getElem?_eq_none (by omega)]
  unfold msgW msgL
  rw [h, h, h, h]

theorem rounds_same {f g : Nat → W32} (x : St) : ∀ n, (∀ i, i < n → f i = g i) → rounds f x n = rounds g x n
  | 0, _ => rfl
  | n + 1, h => by
    show rnd (rounds f x n) (kF n) (f n) = rnd (rounds g x n) (kF n) (g n)
    rw [rounds_same x n (fun i hi => h i (by omega)), h n (by omega)]

/-- What comes behind the first sixteen, of the list of all so far, the last first. -/
def nxt (l : List W32) : W32 :=
  l.getD 15 0 + ((l.getD 14 0).rotateRight 7 ^^^ (l.getD 14 0).rotateRight 18 ^^^ (l.getD 14 0) >>> 3) + l.getD 6 0 + ((l.getD 1 0).rotateRight 17 ^^^ (l.getD 1 0).rotateRight 19 ^^^ (l.getD 1 0) >>> 10)
def schL (m : Nat → W32) : Nat → List W32
  | 0 => []
  | k + 1 => (if k < 16 then m k else nxt (schL m k)) :: schL m k
theorem sch_list (m : Nat → W32) : ∀ k i, i < k → sch m k i = (schL m k).getD (k - 1 - i) 0
  | 0, _, h => absurd h (Nat.not_lt_zero _)
  | k + 1, i, h => by
    show upd (sch m k) k (if k < 16 then m k else nextW (sch m k) k) i = ((if k < 16 then m k else nxt (schL m k)) :: schL m k).getD (k + 1 - 1 - i) 0
    unfold upd
    by_cases hi : i = k
    · subst hi
      rw [if_pos rfl, show i + 1 - 1 - i = 0 by omega, List.getD_cons_zero]
      by_cases h16 : i < 16
      · rw [if_pos h16, if_pos h16]
      · rw [if_neg h16, if_neg h16]
        unfold nextW nxt
        rw [sch_list m i (i - 16) (by omega), sch_list m i (i - 15) (by omega), sch_list m i (i - 7) (by omega), sch_list m i (i - 2) (by omega),
          show i - 1 - (i - 16) = 15 by omega, show i - 1 - (i - 15) = 14 by omega, show i - 1 - (i - 7) = 6 by omega, show i - 1 - (i - 2) = 1 by omega]
    · rw [if_neg hi, sch_list m k i (by omega), show k + 1 - 1 - i = (k - 1 - i) + 1 by omega, List.getD_cons_succ]
theorem blk_list (m : Nat → W32) (h : St) : blk m h = addSt h (rounds (fun i => (schL m 64).getD (63 - i) 0) h 64) := by
  unfold blk
  rw [rounds_same h 64 (fun i hi => sch_list m 64 i hi)]
theorem sum_abc : sumL [97, 98, 99] = [0xba, 0x78, 0x16, 0xbf, 0x8f, 0x01, 0xcf, 0xea, 0x41, 0x41, 0x40, 0xde, 0x5d, 0xae, 0x22, 0x23, 0xb0, 0x03, 0x61, 0xa3, 0x96, 0x17, 0x7a, 0x9c, 0xb4, 0x10, 0xff, 0x61, 0xf2, 0x00, 0x15, 0xad] := by
  have h1 : (padL [97, 98, 99]).length / 64 = 1 := by decide +kernel
  unfold sumL
  rw [h1]
  show stL (blk _ hSt) = _
  rw [blk_list]
  decide +kernel
end Go.Proofs.Ytfkcldaogfengaa
