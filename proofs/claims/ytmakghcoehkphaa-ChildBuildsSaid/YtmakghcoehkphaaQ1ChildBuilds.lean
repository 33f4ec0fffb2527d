/-
  ChildBuilds, part 1: the texts Sha6, ShaP, Sha7, Sha8, Sha9, Sha10, Sha11, ShaD, Ia, TxQ, one after another. Conditions: none beyond those named at each.
-/
import Derived.Test.YtmakghcoehkphaaSha5
import Derived.Test.YtmakghcoehkphaaShelf
import Derived.Deep.RegionHeld
import Derived.Deep.DrawnRows
import Derived.Test.YtmakghcoehkphaaShaB
import Derived.Test.YtmakghcoehkphaaInv
import Derived.Test.YtmakghcoehkphaaWe
import Derived.Test.YtmakghcoehkphaaTxH
section
/-
  SHA-256: a word of four bytes, put together by sums or by shifts. Conditions: those named in each lemma.
-/
namespace Go.Proofs.Ytmakghcoehkphaa
open Go.RowKit
set_option linter.unusedVariables false

theorem shl_or (x y : W32) (hx : x.toNat < 16777216) (hy : y.toNat < 256) : x <<< (8 : Nat) ||| y = x * 256 + y := by
  apply BitVec.eq_of_toNat_eq
  have h1 : (x <<< (8 : Nat)).toNat = x.toNat <<< 8 := by
    rw [BitVec.toNat_shiftLeft, Nat.shiftLeft_eq]
    exact Nat.mod_eq_of_lt (by omega)
  rw [BitVec.toNat_or, h1, ← Nat.shiftLeft_add_eq_or_of_lt (show y.toNat < 2 ^ 8 from hy), Nat.shiftLeft_eq, BitVec.toNat_add, BitVec.toNat_mul]
  have h2 : (256 : W32).toNat = 256 := by decide
  rw [h2]
  omega
theorem toNat_step (x y : W32) (hx : x.toNat < 16777216) (hy : y.toNat < 256) : (x * 256 + y).toNat = x.toNat * 256 + y.toNat := by
  rw [BitVec.toNat_add, BitVec.toNat_mul]
  have h2 : (256 : W32).toNat = 256 := by decide
  rw [h2]
  omega
theorem msg_sum (a b c d : W32) (ha : a.toNat < 256) (hb : b.toNat < 256) (hc : c.toNat < 256) (hd : d.toNat < 256) :
    ((a <<< (8 : Nat) ||| b) <<< (8 : Nat) ||| c) <<< (8 : Nat) ||| d = a * 16777216 + b * 65536 + c * 256 + d := by
  have e1 := toNat_step a b (by omega) hb
  rw [shl_or a b (by omega) hb]
  have e2 := toNat_step (a * 256 + b) c (by omega) hc
  rw [shl_or _ c (by omega) hc, shl_or _ d (by omega) hd]
  clear e1 e2 ha hb hc hd
  rw [show (16777216 : W32) = 256 * 256 * 256 by decide, show (65536 : W32) = 256 * 256 by decide]
  rw [BitVec.add_mul, BitVec.add_mul, BitVec.add_mul]
  simp only [BitVec.mul_assoc]
end Go.Proofs.Ytmakghcoehkphaa
end

section
/-
  SHA-256 as a plain function of a list of bytes; its value at the text abc. Conditions: those named in each lemma.
-/
namespace Go.Proofs.Ytmakghcoehkphaa
open Go.RowKit
set_option linter.unusedVariables false
set_option linter.unusedSimpArgs false

def addSt (x y : St) : St := ⟨x.a + y.a, x.b + y.b, x.c + y.c, x.d + y.d, x.e + y.e, x.f + y.f, x.g + y.g, x.h + y.h⟩
def byL (l : List UInt8) (i : Nat) : W32 := BitVec.ofNat 32 (l.getD i 0).toNat
/-- A word of a block that begins at o. -/
def msgL (l : List UInt8) (o i : Nat) : W32 := ((((byL l (o + 4 * i)) <<< 8 ||| byL l (o + (4 * i + 1))) <<< 8 ||| byL l (o + (4 * i + 2))) <<< 8 ||| byL l (o + (4 * i + 3)))
def rounds (f : Nat → W32) (x : St) : Nat → St
  | 0 => x
  | i + 1 => rnd (rounds f x i) (kF i) (f i)
def blk (m : Nat → W32) (h : St) : St := addSt h (rounds (sch m 64) h 64)
def blks (l : List UInt8) : Nat → St
  | 0 => hSt
  | i + 1 => blk (msgL l (64 * i)) (blks l i)
def zerosOf (n : Nat) : Nat := (119 - n % 64) % 64
def padL (l : List UInt8) : List UInt8 := l ++ (128 :: List.replicate (zerosOf l.length) 0) ++ beL (l.length * 8) 8
def stL (h : St) : List UInt8 := beL h.a.toNat 4 ++ beL h.b.toNat 4 ++ beL h.c.toNat 4 ++ beL h.d.toNat 4 ++ beL h.e.toNat 4 ++ beL h.f.toNat 4 ++ beL h.g.toNat 4 ++ beL h.h.toNat 4
/-- The digest. -/
def sumL (l : List UInt8) : List UInt8 := stL (blks (padL l) ((padL l).length / 64))

theorem stL_len (h : St) : (stL h).length = 32 := by simp [stL, beL_len]
theorem sumL_len (l : List UInt8) : (sumL l).length = 32 := stL_len _
theorem padL_len (l : List UInt8) : (padL l).length = l.length + zerosOf l.length + 9 := by
  simp [padL, beL_len]; omega
theorem padL_blocks (l : List UInt8) : (padL l).length = 64 * ((padL l).length / 64) ∧ 0 < (padL l).length / 64 := by
  rw [padL_len]; unfold zerosOf; omega
theorem zerosOf_le (n : Nat) : zerosOf n ≤ 63 := by unfold zerosOf; omega

theorem msgW_ext (s : ByteArray) (o j : Nat) : msgW (s.extract o s.size) j = msgL s.data.toList o j := by
  have h : ∀ i, byteW (s.extract o s.size) i = byL s.data.toList (o + i) := by
    intro i
    unfold byteW byL
    congr 2
    have hd : (s.extract o s.size).data = s.data.extract o s.size := by simp
    rw [hd, Array.toList_extract]
    have hs2 : s.data.toList.length = s.size := by simp
    simp only [List.extract_eq_take_drop, List.getD_eq_getElem?_getD, List.getElem?_take, List.getElem?_drop]
    by_cases hlt : i < s.size - o
    · rw [if_pos hlt]
    · rw [if_neg hlt, List.getElem?_eq_none (by omega)]
  unfold msgW msgL
  rw [h, h, h, h]

theorem rounds_same {f g : Nat → W32} (x : St) : ∀ n, (∀ i, i < n → f i = g i) → rounds f x n = rounds g x n
  | 0, _ => rfl
  | n + 1, h => by
    show rnd (rounds f x n) (kF n) (f n) = rnd (rounds g x n) (kF n) (g n)
    rw [rounds_same x n (fun i hi => h i (by omega)), h n (by omega)]

/-- What comes behind the first sixteen, of the list of all so far, the last first. -/
def nxt (l : List W32) : W32 :=
  l.getD 15 0 + ((l.getD 14 0).rotateRight 7 ^^^ (l.getD 14 0).rotateRight 18 ^^^ (l.getD 14 0) >>> 3) + l.getD 6 0 + ((l.getD 1 0).rotateRight 17 ^^^ (l.getD 1 0).rotateRight 19 ^^^ (l.getD 1 0) >>> 10)
def schL (m : Nat → W32) : Nat → List W32
  | 0 => []
  | k + 1 => (if k < 16 then m k else nxt (schL m k)) :: schL m k
theorem sch_list (m : Nat → W32) : ∀ k i, i < k → sch m k i = (schL m k).getD (k - 1 - i) 0
  | 0, _, h => absurd h (Nat.not_lt_zero _)
  | k + 1, i, h => by
    show upd (sch m k) k (if k < 16 then m k else nextW (sch m k) k) i = ((if k < 16 then m k else nxt (schL m k)) :: schL m k).getD (k + 1 - 1 - i) 0
    unfold upd
    by_cases hi : i = k
    · subst hi
      rw [if_pos rfl, show i + 1 - 1 - i = 0 by omega, List.getD_cons_zero]
      by_cases h16 : i < 16
      · rw [if_pos h16, if_pos h16]
      · rw [if_neg h16, if_neg h16]
        unfold nextW nxt
        rw [sch_list m i (i - 16) (by omega), sch_list m i (i - 15) (by omega), sch_list m i (i - 7) (by omega), sch_list m i (i - 2) (by omega),
          show i - 1 - (i - 16) = 15 by omega, show i - 1 - (i - 15) = 14 by omega, show i - 1 - (i - 7) = 6 by omega, show i - 1 - (i - 2) = 1 by omega]
    · rw [if_neg hi, sch_list m k i (by omega), show k + 1 - 1 - i = (k - 1 - i) + 1 by omega, List.getD_cons_succ]
theorem blk_list (m : Nat → W32) (h : St) : blk m h = addSt h (rounds (fun i => (schL m 64).getD (63 - i) 0) h 64) := by
  unfold blk
  rw [rounds_same h 64 (fun i hi => sch_list m 64 i hi)]
theorem sum_abc : sumL [97, 98, 99] = [0xba, 0x78, 0x16, 0xbf, 0x8f, 0x01, 0xcf, 0xea, 0x41, 0x41, 0x40, 0xde, 0x5d, 0xae, 0x22, 0x23, 0xb0, 0x03, 0x61, 0xa3, 0x96, 0x17, 0x7a, 0x9c, 0xb4, 0x10, 0xff, 0x61, 0xf2, 0x00, 0x15, 0xad] := by
  have h1 : (padL [97, 98, 99]).length / 64 = 1 := by decide +kernel
  unfold sumL
  rw [h1]
  show stL (blk _ hSt) = _
  rw [blk_list]
  decide +kernel
end Go.Proofs.Ytmakghcoehkphaa
end

section
/-
  SHA-256: the padded text, by appends. Conditions: the text has no more than 2^40 bytes.
-/
namespace Go.Proofs.Ytmakghcoehkphaa
open Go.RowKit Go.BigFrame
set_option linter.unusedVariables false
set_option linter.unusedSimpArgs false

theorem app_byte {w : World} {B n : Nat} {v : Value} {l : List UInt8} (hown : w.ownsRow B 5 1 v n (bytesOf l)) (hl : n ≤ 2199023255552) (hB : B ≤ w.heap.size) (b : UInt8) (x : Int) (hx : (b.toNat : Int) = x) :
    ∃ a' c' w', (Builtin.append_ #[92, 92] 92 #[v, .slice (some ⟨w.heap.size, 0, none⟩) 1 1]).run Try.prog (w.alloc (.cells #[.int .u8 x] 5)) = .ok (.slice a' (n + 1) c') w' ∧
      w'.ownsRow B 5 1 (.slice a' (n + 1) c') (n + 1) (bytesOf (l ++ [b])) ∧ Below B w w' := by
  obtain ⟨i0, hi, hz0, hz1, hz2⟩ := info_parts info_u8b
  obtain ⟨a', c', w', hrun, hown', hbw', -⟩ := append_el (P := Try.prog) (t := 92) (ty := 92) Try.underlying92 hi hz0 hz1 hz2 rfl hown #[.int .u8 x] rfl (by simp [Value.oneCell']) (by rw [maxLen_eq]; omega) (by omega) hB
  refine ⟨a', c', w', hrun, ?_, hbw'⟩
  rw [bytesOf_append, show bytesOf [b] = [.int .u8 x] by simp [bytesOf, hx]]
  exact hown'

theorem be_get (n k t : Nat) (h : t < k) : (beL n k)[t]? = some (UInt8.ofNat (n / 256 ^ (k - 1 - t))) := by
  induction k generalizing t with
  | zero => omega
  | succ k ih =>
    cases t with
    | zero => simp [beL]
    | succ t =>
      show (beL n k)[t]? = _
      rw [ih t (by omega), show k + 1 - 1 - (t + 1) = k - 1 - t by omega]
theorem be_take (n k t : Nat) (h : t < k) : (beL n k).take (t + 1) = (beL n k).take t ++ [UInt8.ofNat (n / 256 ^ (k - 1 - t))] := by
  have hl : t < (beL n k).length := by rw [beL_len]; exact h
  rw [List.take_succ_eq_append_getElem hl]
  congr 2
  have := be_get n k t h
  rw [List.getElem?_eq_getElem hl] at this
  exact Option.some.inj this
theorem be_take_len (n k t : Nat) (h : t ≤ k) : ((beL n k).take t).length = t := by rw [List.length_take, beL_len]; omega

/-- Padding is complete just behind as many zeros. -/
theorem zeros_full (n j : Nat) (hj : j ≤ zerosOf n) : (n + 1 + j) % 64 = 56 ↔ j = zerosOf n := by
  unfold zerosOf at *
  omega

theorem take_at (s : ByteArray) (j : Nat) (h : j < s.size) : s.data.toList.take (j + 1) = s.data.toList.take j ++ [s[j]] := by
  have hl : j < s.data.toList.length := by simpa using h
  rw [List.take_succ_eq_append_getElem hl]
  rfl
theorem shr_eight (n q k : Nat) (hk : q = k) : ((UInt8.ofNat (n / q)).toNat : Int) = (n : Int) / (k : Int) % 256 := by
  subst hk
  rw [UInt8.toNat_ofNat']
  omega

def PadIs (s : ByteArray) (w : World) (e : Ending) (w' : World) : Prop := ∃ v, e = .returned v ∧ Below w.heap.size w w' ∧ w'.ownsRow w.heap.size 5 1 v (padL s.data.toList).length (bytesOf (padL s.data.toList))
end Go.Proofs.Ytmakghcoehkphaa
end

section
/-
  SHA-256: sha.padded. Conditions: the text has no more than 2^40 bytes.
-/
namespace Go.Proofs.Ytmakghcoehkphaa
open Go.RowKit Go.BigFrame
set_option linter.unusedVariables false
set_option linter.unusedSimpArgs false

theorem srepeat_zero (c : Nat) : Lib.repeatL [(0 : UInt8)] c = List.replicate c 0 := by
  induction c with
  | zero => rfl
  | succ c ih => simp [Lib.repeatL, ih, List.replicate_succ]
theorem repeat0_any (c : Nat) (hc : c ≤ 63) (w : World) : Calls Try.prog 35 #[.string ⟨#[0]⟩, .int .i64 c] w fun e w' => e = .returned (.string ⟨(List.replicate c (0 : UInt8)).toArray⟩) ∧ Below w.heap.size w w' := by
  have h := Try.strings_Repeat (ByteArray.mk #[0]) c w (by omega) (by rw [show (ByteArray.mk #[0]).size = 1 from rfl]; omega)
  rw [show (ByteArray.mk #[0]).data.toList = [0] from rfl, srepeat_zero] at h
  exact h

def PaddedIs (s : ByteArray) (w : World) (e : Ending) (w' : World) : Prop := e = .returned (.string ⟨(padL s.data.toList).toArray⟩) ∧ Below w.heap.size w w'
end Go.Proofs.Ytmakghcoehkphaa
end

section
/-
  SHA-256: the document's block. Conditions: the slice has 64 bytes, which the list tells.
-/
namespace Go.Proofs.Ytmakghcoehkphaa
open Go.RowKit Go.BigFrame
set_option linter.unusedVariables false
set_option linter.unusedSimpArgs false

/-- The eight words as a function. -/
def St.fn (s : St) : Nat → W32
  | 0 => s.a
  | 1 => s.b
  | 2 => s.c
  | 3 => s.d
  | 4 => s.e
  | 5 => s.f
  | 6 => s.g
  | _ => s.h
theorem St.val_arr (s : St) : s.val = .agg (arrV 8 s.fn) := rfl

theorem ArrAt.other {w : World} {b n : Nat} {f : Nat → W32} (h : ArrAt w b n f) (p : Addr) (v : Value) (hp : p.block ≠ b) : ArrAt (w.setCell p v) b n f := by
  obtain ⟨cs, e, h1, h2, h3⟩ := h
  exact ⟨cs, e, (Below.heap_setCell _ _ _ _ (Ne.symm hp)).trans h1, h2, h3⟩
theorem ArrAt.rowOther {w : World} {b c n : Nat} {f : Nat → W32} (h : ArrAt w b n f) (x : Array Value) (hp : c ≠ b) : ArrAt (w.setRow c x) b n f := by
  obtain ⟨cs, e, h1, h2, h3⟩ := h
  exact ⟨cs, e, (setRow_other w c b _ (Ne.symm hp)).trans h1, h2, h3⟩
theorem below_row {B : Nat} {w wr : World} (h : Below B w wr) {c : Nat} (hc : B ≤ c) (x : Array Value) : Below B w (wr.setRow c x) :=
  ⟨h.os, h.tape, h.output, by have := h.size; simpa [World.setRow] using this, fun k hk => (setRow_other wr c k _ (by omega)).trans (h.block k hk)⟩

structure BW (w : World) (hs : Nat → W32) (K : Nat) (f : Nat → W32) (wr : World) : Prop where
  bel : Below w.heap.size w wr
  hh : ArrAt wr w.heap.size 8 hs
  res : ArrAt wr (w.heap.size + 1) 8 (fun _ => 0)
  ws : ArrAt wr (w.heap.size + 2) 64 f
  ks : ArrAt wr K 64 kF
  far : w.heap.size + 2 < K
theorem BW.next {w wr w' : World} {hs f : Nat → W32} {K : Nat} (h : BW w hs K f wr) (hb : Below wr.heap.size wr w') : BW w hs K f w' :=
  ⟨h.bel.trans (hb.mono h.bel.size), h.hh.next hb h.hh.lt, h.res.next hb h.res.lt, h.ws.next hb h.ws.lt, h.ks.next hb h.ks.lt, h.far⟩
theorem BW.put {w wr : World} {hs f : Nat → W32} {K : Nat} (h : BW w hs K f wr) (i : Nat) (x : W32) : BW w hs K (upd f i x) (wr.setCell ⟨w.heap.size + 2, i, none⟩ (.int .u32 (nv x))) :=
  ⟨h.bel.setCell (by simp) _, h.hh.other _ _ (by simp), h.res.other _ _ (by simp), h.ws.set x, h.ks.other _ _ (by have := h.far; simp; omega), h.far⟩
structure BX (w : World) (hs : Nat → W32) (K : Nat) (f : Nat → W32) (X : Nat) (g : Nat → W32) (wr : World) : Prop where
  b : BW w hs K f wr
  x : ArrAt wr X 8 g
  far : K < X
theorem BX.next {w wr w' : World} {hs f g : Nat → W32} {K X : Nat} (h : BX w hs K f X g wr) (hb : Below wr.heap.size wr w') : BX w hs K f X g w' :=
  ⟨h.b.next hb, h.x.next hb h.x.lt, h.far⟩
theorem BX.put {w wr : World} {hs f g : Nat → W32} {K X : Nat} (h : BX w hs K f X g wr) (i : Nat) (x : W32) : BX w hs K f X (upd g i x) (wr.setCell ⟨X, i, none⟩ (.int .u32 (nv x))) := by
  have f1 := h.far
  have f2 := h.b.far
  exact ⟨⟨h.b.bel.setCell (by simp; omega) _, h.b.hh.other _ _ (by simp; omega), h.b.res.other _ _ (by simp; omega), h.b.ws.other _ _ (by simp; omega), h.b.ks.other _ _ (by simp; omega), f2⟩, h.x.set x, h.far⟩

/-- The call's first three rows. -/
structure B0 (w : World) (hs : Nat → W32) (wr : World) : Prop where
  bel : Below w.heap.size w wr
  hh : ArrAt wr w.heap.size 8 hs
  res : ArrAt wr (w.heap.size + 1) 8 (fun _ => 0)
  ws : ArrAt wr (w.heap.size + 2) 64 (fun _ => 0)
  sz : w.heap.size + 2 < wr.heap.size
theorem arrAt_new (w : World) (n : Nat) (f : Nat → W32) (e : TypeId) : ArrAt (w.alloc (.cells (arrV n f) e)) w.heap.size n f :=
  ⟨_, e, heap_alloc_new w _, arrV_size n f, fun i hi => by simp [arrV, hi]⟩
theorem ArrAt.alloc {w : World} {b n : Nat} {f : Nat → W32} (h : ArrAt w b n f) (o : Obj) : ArrAt (w.alloc o) b n f :=
  h.next ((Below.refl _ _).alloc (Nat.le_refl _) o) h.lt
theorem rep_arr (n : Nat) : arrV n (fun _ => 0) = Array.replicate n (.int .u32 0) := by
  apply Array.ext
  · simp [arrV_size]
  · intro i h1 h2; simp [arrV]; exact nv_zero
theorem B0.start (w : World) (hs : Nat → W32) (e1 e2 e3 : TypeId) : B0 w hs (((w.alloc (.cells (arrV 8 hs) e1)).alloc (.cells (Array.replicate 8 (.int .u32 0)) e2)).alloc (.cells (Array.replicate 64 (.int .u32 0)) e3)) := by
  have s1 : (w.alloc (.cells (arrV 8 hs) e1)).heap.size = w.heap.size + 1 := by simp
  have s2 : ((w.alloc (.cells (arrV 8 hs) e1)).alloc (.cells (arrV 8 (fun _ => 0)) e2)).heap.size = w.heap.size + 2 := by simp
  rw [← rep_arr, ← rep_arr]
  refine ⟨(((Below.refl _ _).alloc (Nat.le_refl _) _).alloc (by simp) _).alloc (by simp; omega) _, ((arrAt_new w 8 hs e1).alloc _).alloc _, ?_, ?_, by simp⟩
  · have := arrAt_new (w.alloc (.cells (arrV 8 hs) e1)) 8 (fun _ => 0) e2
    rw [s1] at this
    exact this.alloc _
  · have := arrAt_new ((w.alloc (.cells (arrV 8 hs) e1)).alloc (.cells (arrV 8 (fun _ => 0)) e2)) 64 (fun _ => 0) e3
    rw [s2] at this
    exact this
theorem B0.next {w wr w' : World} {hs : Nat → W32} (h : B0 w hs wr) (hb : Below wr.heap.size wr w') : B0 w hs w' :=
  ⟨h.bel.trans (hb.mono h.bel.size), h.hh.next hb h.hh.lt, h.res.next hb h.res.lt, h.ws.next hb h.ws.lt, Nat.lt_of_lt_of_le h.sz hb.size⟩
theorem B0.keys {w wr : World} {hs : Nat → W32} (h : B0 w hs wr) (e : TypeId) : BW w hs wr.heap.size (fun _ => 0) ((wr.alloc (.cells (arrV 64 (fun _ => 0)) e)).setRow wr.heap.size (arrV 64 kF)) := by
  have hlt := h.sz
  exact ⟨below_row (h.bel.alloc h.bel.size _) h.bel.size _, (h.hh.alloc _).rowOther _ (by omega), (h.res.alloc _).rowOther _ (by omega), (h.ws.alloc _).rowOther _ (by omega), (arrAt_new wr 64 _ e).row, hlt⟩

theorem byL_range (l : List UInt8) (i : Nat) : 0 ≤ nv (byL l i) ∧ nv (byL l i) ≤ 255 := by
  unfold nv byL
  rw [BitVec.toNat_ofNat]
  have := (l.getD i 0).toNat_lt
  have : (l.getD i 0).toNat % 2 ^ 32 = (l.getD i 0).toNat := Nat.mod_eq_of_lt (by omega)
  omega

theorem nv_step (x y : W32) (hx : nv x < 16777216) (hy : nv y < 256) : nv (x <<< (8 : Nat) ||| y) = nv x * 256 + nv y := by
  unfold nv at *
  rw [shl_or x y (by omega) (by omega), toNat_step x y (by omega) (by omega)]
  omega
theorem msgL_nv (l : List UInt8) (o k : Nat) : nv (byL l (o + 4 * k)) * 16777216 + nv (byL l (o + (4 * k + 1))) * 65536 + nv (byL l (o + (4 * k + 2))) * 256 + nv (byL l (o + (4 * k + 3))) = nv (msgL l o k) := by
  have r0 := byL_range l (o + 4 * k)
  have r1 := byL_range l (o + (4 * k + 1))
  have r2 := byL_range l (o + (4 * k + 2))
  have r3 := byL_range l (o + (4 * k + 3))
  unfold msgL
  have e1 := nv_step (byL l (o + 4 * k)) (byL l (o + (4 * k + 1))) (by omega) (by omega)
  have e2 := nv_step _ (byL l (o + (4 * k + 2))) (by rw [e1]; omega) (by omega)
  have e3 := nv_step _ (byL l (o + (4 * k + 3))) (by rw [e2, e1]; omega) (by omega)
  rw [e3, e2, e1]
  omega

theorem BX.start {w wr : World} {hs f : Nat → W32} {K : Nat} (h : BW w hs K f wr) (e : TypeId) : BX w hs K f wr.heap.size hs ((wr.alloc (.cells (arrV 8 (fun _ => 0)) e)).setRow wr.heap.size (arrV 8 hs)) := by
  have h1 := h.bel.size
  have h2 := h.ks.lt
  have h3 := h.far
  exact ⟨⟨below_row (h.bel.alloc h1 _) h1 _, (h.hh.alloc _).rowOther _ (by omega), (h.res.alloc _).rowOther _ (by omega), (h.ws.alloc _).rowOther _ (by omega), (h.ks.alloc _).rowOther _ (by omega), h3⟩, (arrAt_new wr 8 _ e).row, h2⟩

theorem BX.same {w wr : World} {hs f g g' : Nat → W32} {K X : Nat} (h : BX w hs K f X g wr) (he : ∀ i, i < 8 → g i = g' i) : BX w hs K f X g' wr := ⟨h.b, h.x.same he, h.far⟩
/-- The words behind the n-th moved by one. -/
def shf (g : Nat → W32) (n : Nat) : Nat → W32 := fun j => if n < j then g (j - 1) else g j
theorem shf_step (g : Nat → W32) (m : Nat) : upd (shf g (m + 1)) (m + 1) (shf g (m + 1) m) = shf g m := by
  funext j
  unfold upd shf
  by_cases h1 : j = m + 1
  · subst h1
    rw [if_pos rfl, if_neg (by omega), if_pos (by omega)]
    rfl
  · rw [if_neg h1]
    by_cases h2 : m < j
    · rw [if_pos (by omega), if_pos h2]
    · rw [if_neg (by omega), if_neg h2]
/-- The first n words with those of h added. -/
def plus (x h : Nat → W32) (n : Nat) : Nat → W32 := fun j => if j < n then x j + h j else x j
theorem plus_step (x h : Nat → W32) (n : Nat) : upd (plus x h n) n (plus x h n n + h n) = plus x h (n + 1) := by
  funext j
  unfold upd plus
  by_cases h1 : j = n
  · subst h1
    rw [if_pos rfl, if_neg (by omega), if_pos (by omega)]
  · rw [if_neg h1]
    by_cases h2 : j < n
    · rw [if_pos h2, if_pos (by omega)]
    · rw [if_neg h2, if_neg (by omega)]
theorem fn_rnd (s : St) (k x : W32) : ∀ i, i < 8 → upd (upd (shf s.fn 0) 4 (s.d + tOf s k x)) 0 (tOf s k x + uOf s) i = (rnd s k x).fn i := by
  intro i hi
  match i, hi with
  | 0, _ => rfl
  | 1, _ => rfl
  | 2, _ => rfl
  | 3, _ => rfl
  | 4, _ => rfl
  | 5, _ => rfl
  | 6, _ => rfl
  | 7, _ => rfl
theorem fn_add (x h : St) : arrV 8 (plus x.fn h.fn 8) = arrV 8 (addSt h x).fn := by
  have : ∀ i, i < 8 → plus x.fn h.fn 8 i = (addSt h x).fn i := by
    intro i hi
    unfold plus
    rw [if_pos hi, BitVec.add_comm]
    match i, hi with
    | 0, _ => rfl
    | 1, _ => rfl
    | 2, _ => rfl
    | 3, _ => rfl
    | 4, _ => rfl
    | 5, _ => rfl
    | 6, _ => rfl
    | 7, _ => rfl
  unfold arrV
  congr 1
  apply List.map_congr_left
  intro i hi
  rw [this i (by simpa using hi)]

/-- The bytes of a block, as they lie. -/
def BytesIn (w : World) (bb o : Nat) (l : List UInt8) (off : Nat) : Prop := ∀ i, i < 64 → w.cell? ⟨bb, o + i, none⟩ = some (.int .u8 (nv (byL l (off + i))))
def BlkIs (l : List UInt8) (off : Nat) (h : St) (w : World) (e : Ending) (w' : World) : Prop := e = .returned (blk (msgL l off) h).val ∧ Below w.heap.size w w'

attribute [-go_sem] loadCellsFrom
end Go.Proofs.Ytmakghcoehkphaa
end

section
/-
  SHA-256: the document's Sum. Conditions: the text has no more than 2^40 bytes.
-/
namespace Go.Proofs.Ytmakghcoehkphaa
open Go.RowKit Go.BigFrame
set_option linter.unusedVariables false
set_option linter.unusedSimpArgs false

theorem op_store_arr {Pr : Program} {o : Oper} {a : Act} {w : World} {K : Act → World → Prop} {Q : Exit → Act → World → Prop} {b n : Nat} {f g : Nat → W32} (h : ArrAt w b n g) (t : TypeId) (x y : Operand)
    (ho : o.op = .store t x y) (hx : a.eval x = .pointer (some ⟨b, 0, none⟩)) (hy : a.eval y = .agg (arrV n f)) (hi : (Pr.info? t).map (·.size) = some n)
    (hK : K (a.put o.dst undef) (w.setRow b (arrV n f))) : o.wp Pr a w K Q := by
  obtain ⟨e, he⟩ := h.heap
  unfold Oper.wp
  have hr : (execOp a.eval o).run Pr w = .ok .skip (w.setRow b (arrV n f)) := by
    simp only [execOp, ho, hx, hy, Instr.storeAt, Instr.sureAddr, Sem.run_bind, Sem.run_pure, Result.andThen, run_storeVar_row w b e t (arrV n g) (arrV n f) he (by rw [arrV_size]; exact hi) (by rw [arrV_size, arrV_size]) (arrV_one n f)]
  rw [hr]
  exact hK

/-- The first so many words' bytes. -/
def outL (f : Nat → W32) : Nat → List UInt8
  | 0 => []
  | n + 1 => outL f n ++ beL (f n).toNat 4
theorem outL_len (f : Nat → W32) (n : Nat) : (outL f n).length = 4 * n := by
  induction n with
  | zero => rfl
  | succ n ih => simp [outL, ih, beL_len]; omega
theorem outL_st (h : St) : outL h.fn 8 = stL h := by
  simp only [outL, stL, List.nil_append, St.fn]
theorem four_bytes (x : W32) (w : World) : (convert 92 9 (.slice (some ⟨w.heap.size, 0, none⟩) 4 4)).run Try.prog (w.alloc (.cells #[.int .u8 (IntKind.u8.wrap (nv x / 16777216)), .int .u8 (IntKind.u8.wrap (nv x / 65536)), .int .u8 (IntKind.u8.wrap (nv x / 256)), .int .u8 (IntKind.u8.wrap (nv x))] 5)).drew =
    .ok (.string ⟨(beL x.toNat 4).toArray⟩) (w.alloc (.cells #[.int .u8 (IntKind.u8.wrap (nv x / 16777216)), .int .u8 (IntKind.u8.wrap (nv x / 65536)), .int .u8 (IntKind.u8.wrap (nv x / 256)), .int .u8 (IntKind.u8.wrap (nv x))] 5)).drew := by
  simp only [IntKind.wrap_u8]
  have h : (w.alloc (.cells #[.int .u8 (nv x / 16777216 % 256), .int .u8 (nv x / 65536 % 256), .int .u8 (nv x / 256 % 256), .int .u8 (nv x % 256)] 5)).ownsRow 0 5 1 (.slice (some ⟨w.heap.size, 0, none⟩) 4 4) 4 (bytesOf (beL x.toNat 4)) := by
    refine ⟨rfl, .inr ⟨w.heap.size, 4, _, rfl, Nat.zero_le _, heap_alloc_new w _, Nat.le_refl _, by rw [maxLen_eq]; omega, rfl, ?_⟩⟩
    simp [bytesOf, beL, nv]
  exact convert_bytes h.drew

structure RS (w : World) (bb n : Nat) (P : List UInt8) (f : Nat → W32) (wr : World) : Prop where
  bel : Below w.heap.size w wr
  row : ArrAt wr w.heap.size 8 f
  by_ : ∀ j, j < n → wr.cell? ⟨bb, j, none⟩ = some (.int .u8 (nv (byL P j)))
  far : w.heap.size < bb
theorem RS.next {w wr w' : World} {bb n : Nat} {P : List UInt8} {f : Nat → W32} (h : RS w bb n P f wr) (hb : Below wr.heap.size wr w') : RS w bb n P f w' :=
  ⟨h.bel.trans (hb.mono h.bel.size), h.row.next hb h.row.lt, fun j hj => below_cells hb _ _ (h.by_ j hj), h.far⟩
theorem RS.put {w wr : World} {bb n : Nat} {P : List UInt8} {f : Nat → W32} (h : RS w bb n P f wr) (g : Nat → W32) : RS w bb n P g (wr.setRow w.heap.size (arrV 8 g)) := by
  refine ⟨below_row h.bel (Nat.le_refl _) _, h.row.row, fun j hj => ?_, h.far⟩
  have hj' := h.by_ j hj
  have hf := h.far
  simp only [World.cell?] at hj' ⊢
  rw [setRow_other wr w.heap.size bb _ (by omega)]
  exact hj'

def SumIs (s : ByteArray) (w : World) (e : Ending) (w' : World) : Prop := e = .returned (.string ⟨(sumL s.data.toList).toArray⟩) ∧ Below w.heap.size w w'

attribute [-go_sem] loadCellsFrom
end Go.Proofs.Ytmakghcoehkphaa
end

section
/-
  SHA-256: sha.Sum. Conditions: the text has no more than 2^40 bytes.
-/
namespace Go.Proofs.Ytmakghcoehkphaa
open Go.RowKit Go.BigFrame
set_option linter.unusedVariables false
set_option linter.unusedSimpArgs false

/-- The words of the digest so far, and the keys, in rows of the call's own. -/
structure SS (w : World) (A B : Nat) (f : Nat → W32) (wr : World) : Prop where
  bel : Below w.heap.size w wr
  h : ArrAt wr A 8 f
  k : ArrAt wr B 64 kF
  lo : w.heap.size ≤ A
  far : A < B
theorem SS.next {w wr w' : World} {A B : Nat} {f : Nat → W32} (h : SS w A B f wr) (hb : Below wr.heap.size wr w') : SS w A B f w' :=
  ⟨h.bel.trans (hb.mono h.bel.size), h.h.next hb h.h.lt, h.k.next hb h.k.lt, h.lo, h.far⟩
theorem SS.start {w wr : World} (hb : Below w.heap.size w wr) (f : Nat → W32) (e1 e2 : TypeId) :
    SS w wr.heap.size (wr.heap.size + 1) f ((((wr.alloc (.cells (arrV 8 (fun _ => 0)) e1)).alloc (.cells (arrV 64 (fun _ => 0)) e2)).setRow wr.heap.size (arrV 8 f)).setRow (wr.heap.size + 1) (arrV 64 kF)) := by
  have s1 : (wr.alloc (.cells (arrV 8 (fun _ => 0)) e1)).heap.size = wr.heap.size + 1 := by simp
  have hsz := hb.size
  have a1 := (arrAt_new wr 8 (fun _ => 0) e1).alloc (.cells (arrV 64 (fun _ => 0)) e2)
  have a2 := arrAt_new (wr.alloc (.cells (arrV 8 (fun _ => 0)) e1)) 64 (fun _ => 0) e2
  rw [s1] at a2
  exact ⟨below_row (below_row ((hb.alloc hsz _).alloc (by rw [s1]; omega) _) hsz _) (by omega) _, (a1.row).rowOther _ (by omega), (a2.rowOther _ (by omega)).row, hsz, Nat.lt_succ_self _⟩

theorem isEmpty_size (s : ByteArray) : s.toList.isEmpty = decide (s.size = 0) := by
  rw [ByteArray.toList_eq]
  have : s.size = s.data.toList.length := by simp
  rw [this]
  cases s.data.toList <;> simp
/-- What holds amid 'w, x := schedule(s), h'. -/
structure RI (w : World) (A B : Nat) (f Wf : Nat → W32) (L : Nat → Prop) (x21 x22 x5 x6 : Value) (wr : World) : Prop where
  ss : SS w A B f wr
  l1 : L 1 → x21 = .agg (arrV 64 Wf)
  l2 : L 2 → x22 = .agg (arrV 8 f)
  l3 : L 3 → ∃ p, x5 = .pointer (some ⟨p, 0, none⟩) ∧ B < p ∧ ∃ g, ArrAt wr p 64 g ∧ (L 5 → g = Wf)
  l4 : L 4 → ∃ p, x6 = .pointer (some ⟨p, 0, none⟩) ∧ B < p ∧ ∃ g, ArrAt wr p 8 g ∧ (L 6 → g = f)
  ne : L 3 → L 4 → x5 ≠ x6
  o5 : L 5 → L 3
  o6 : L 6 → L 4
section
variable {w : World} {A B : Nat} {f Wf : Nat → W32} {L : Nat → Prop} {x21 x22 x5 x6 : Value} {wr : World}
theorem RI.next {w' : World} (h : RI w A B f Wf L x21 x22 x5 x6 wr) (hb : Below wr.heap.size wr w') : RI w A B f Wf L x21 x22 x5 x6 w' :=
  ⟨h.ss.next hb, h.l1, h.l2, fun hl => (h.l3 hl).imp fun p ⟨a, b, g, c, d⟩ => ⟨a, b, g, c.next hb c.lt, d⟩, fun hl => (h.l4 hl).imp fun p ⟨a, b, g, c, d⟩ => ⟨a, b, g, c.next hb c.lt, d⟩, h.ne, h.o5, h.o6⟩
theorem or_ne {i j : Nat} (h : j = i ∨ L j) (hne : j ≠ i) : L j := h.resolve_left hne
theorem RI.t0 (h : RI w A B f Wf L x21 x22 x5 x6 wr) : RI w A B f Wf (fun j => j = 0 ∨ L j) x21 x22 x5 x6 wr :=
  ⟨h.ss, fun e => h.l1 (or_ne e (by decide)), fun e => h.l2 (or_ne e (by decide)), fun e => (h.l3 (or_ne e (by decide))).imp fun p ⟨a, b, g, c, d⟩ => ⟨a, b, g, c, fun e => d (or_ne e (by decide))⟩,
    fun e => (h.l4 (or_ne e (by decide))).imp fun p ⟨a, b, g, c, d⟩ => ⟨a, b, g, c, fun e => d (or_ne e (by decide))⟩, fun e e' => h.ne (or_ne e (by decide)) (or_ne e' (by decide)), fun e => .inr (h.o5 (or_ne e (by decide))), fun e => .inr (h.o6 (or_ne e (by decide)))⟩
theorem RI.t1 (h : RI w A B f Wf L x21 x22 x5 x6 wr) : RI w A B f Wf (fun j => j = 1 ∨ L j) (.agg (arrV 64 Wf)) x22 x5 x6 wr :=
  ⟨h.ss, fun e => rfl, fun e => h.l2 (or_ne e (by decide)), fun e => (h.l3 (or_ne e (by decide))).imp fun p ⟨a, b, g, c, d⟩ => ⟨a, b, g, c, fun e => d (or_ne e (by decide))⟩,
    fun e => (h.l4 (or_ne e (by decide))).imp fun p ⟨a, b, g, c, d⟩ => ⟨a, b, g, c, fun e => d (or_ne e (by decide))⟩, fun e e' => h.ne (or_ne e (by decide)) (or_ne e' (by decide)), fun e => .inr (h.o5 (or_ne e (by decide))), fun e => .inr (h.o6 (or_ne e (by decide)))⟩
theorem RI.t2 (h : RI w A B f Wf L x21 x22 x5 x6 wr) : RI w A B f Wf (fun j => j = 2 ∨ L j) x21 (.agg (arrV 8 f)) x5 x6 wr :=
  ⟨h.ss, fun e => h.l1 (or_ne e (by decide)), fun e => rfl, fun e => (h.l3 (or_ne e (by decide))).imp fun p ⟨a, b, g, c, d⟩ => ⟨a, b, g, c, fun e => d (or_ne e (by decide))⟩,
    fun e => (h.l4 (or_ne e (by decide))).imp fun p ⟨a, b, g, c, d⟩ => ⟨a, b, g, c, fun e => d (or_ne e (by decide))⟩, fun e e' => h.ne (or_ne e (by decide)) (or_ne e' (by decide)), fun e => .inr (h.o5 (or_ne e (by decide))), fun e => .inr (h.o6 (or_ne e (by decide)))⟩
theorem RI.t3 (h : RI w A B f Wf L x21 x22 x5 x6 wr) (hn : ¬ L 3) (e0 : TypeId) : RI w A B f Wf (fun j => j = 3 ∨ L j) x21 x22 (.pointer (some ⟨wr.heap.size, 0, none⟩)) x6 (wr.alloc (.cells (Array.replicate 64 (.int .u32 0)) e0)) := by
  have hb : Below wr.heap.size wr (wr.alloc (.cells (Array.replicate 64 (.int .u32 0)) e0)) := (Below.refl _ _).alloc (Nat.le_refl _) _
  have h' := h.next hb
  exact ⟨h'.ss, fun e => h.l1 (or_ne e (by decide)), fun e => h.l2 (or_ne e (by decide)), fun _ => ⟨_, rfl, h.ss.k.lt, _, arr_rep (heap_alloc_new wr _), fun e => absurd (h.o5 (or_ne e (by decide))) hn⟩,
    fun e => (h'.l4 (or_ne e (by decide))).imp fun p ⟨a, b, g, c, d⟩ => ⟨a, b, g, c, fun e => d (or_ne e (by decide))⟩,
    fun _ e' => by
      obtain ⟨p, rfl, -, g, c, -⟩ := h.l4 (or_ne e' (by decide))
      intro hc
      injection hc with hc
      injection hc with hc
      injection hc with hc
      have := c.lt
      omega, fun _ => .inl rfl, fun e => .inr (h.o6 (or_ne e (by decide)))⟩
theorem RI.t4 (h : RI w A B f Wf L x21 x22 x5 x6 wr) (hn : ¬ L 4) (e0 : TypeId) : RI w A B f Wf (fun j => j = 4 ∨ L j) x21 x22 x5 (.pointer (some ⟨wr.heap.size, 0, none⟩)) (wr.alloc (.cells (Array.replicate 8 (.int .u32 0)) e0)) := by
  have hb : Below wr.heap.size wr (wr.alloc (.cells (Array.replicate 8 (.int .u32 0)) e0)) := (Below.refl _ _).alloc (Nat.le_refl _) _
  have h' := h.next hb
  exact ⟨h'.ss, fun e => h.l1 (or_ne e (by decide)), fun e => h.l2 (or_ne e (by decide)), fun e => (h'.l3 (or_ne e (by decide))).imp fun p ⟨a, b, g, c, d⟩ => ⟨a, b, g, c, fun e => d (or_ne e (by decide))⟩,
    fun _ => ⟨_, rfl, h.ss.k.lt, _, arr_rep (heap_alloc_new wr _), fun e => absurd (h.o6 (or_ne e (by decide))) hn⟩,
    fun e _ => by
      obtain ⟨p, rfl, -, g, c, -⟩ := h.l3 (or_ne e (by decide))
      intro hc
      injection hc with hc
      injection hc with hc
      injection hc with hc
      have := c.lt
      omega, fun e => .inr (h.o5 (or_ne e (by decide))), fun _ => .inl rfl⟩
theorem SS.row {p : Nat} (h : SS w A B f wr) (hp : B < p) (x : Array Value) : SS w A B f (wr.setRow p x) := by
  have h1 := h.lo
  have h2 := h.far
  exact ⟨below_row h.bel (by omega) _, h.h.rowOther _ (by omega), h.k.rowOther _ (by omega), h.lo, h.far⟩
theorem RI.t5 {p : Nat} (h : RI w A B f Wf L x21 x22 (.pointer (some ⟨p, 0, none⟩)) x6 wr) (hp : B < p) (h3 : L 3) {g : Nat → W32} (hg : ArrAt wr p 64 g) : RI w A B f Wf (fun j => j = 5 ∨ L j) x21 x22 (.pointer (some ⟨p, 0, none⟩)) x6 (wr.setRow p (arrV 64 Wf)) :=
  ⟨h.ss.row hp _, fun e => h.l1 (or_ne e (by decide)), fun e => h.l2 (or_ne e (by decide)), fun e => ⟨p, rfl, hp, Wf, hg.row, fun _ => rfl⟩,
    fun e => (h.l4 (or_ne e (by decide))).imp fun q ⟨a, b, g, c, d⟩ => ⟨a, b, g, c.rowOther _ (fun hpq => h.ne h3 (or_ne e (by decide)) (by rw [a, hpq])), fun e => d (or_ne e (by decide))⟩, fun e e' => h.ne h3 (or_ne e' (by decide)), fun e => .inr h3, fun e => .inr (h.o6 (or_ne e (by decide)))⟩
theorem RI.t6 {p : Nat} (h : RI w A B f Wf L x21 x22 x5 (.pointer (some ⟨p, 0, none⟩)) wr) (hp : B < p) (h4 : L 4) {g : Nat → W32} (hg : ArrAt wr p 8 g) : RI w A B f Wf (fun j => j = 6 ∨ L j) x21 x22 x5 (.pointer (some ⟨p, 0, none⟩)) (wr.setRow p (arrV 8 f)) :=
  ⟨h.ss.row hp _, fun e => h.l1 (or_ne e (by decide)), fun e => h.l2 (or_ne e (by decide)),
    fun e => (h.l3 (or_ne e (by decide))).imp fun q ⟨a, b, g, c, d⟩ => ⟨a, b, g, c.rowOther _ (fun hpq => h.ne (or_ne e (by decide)) h4 (by rw [a, hpq])), fun e => d (or_ne e (by decide))⟩,
    fun e => ⟨p, rfl, hp, f, hg.row, fun _ => rfl⟩, fun e e' => h.ne (or_ne e (by decide)) h4, fun e => .inr (h.o5 (or_ne e (by decide))), fun e => .inr h4⟩
variable {Pr : Program} {K : Act → World → Prop} {Q : Exit → Act → World → Prop} {o : Oper} {a : Act}
theorem RI.s5 (h : RI w A B f Wf L x21 x22 x5 x6 wr) (h3 : L 3) (h1 : L 1) (t : TypeId) (ho : o.op = .store t (.tmp 5) (.tmp 21)) (hx : a.eval (.tmp 5) = x5) (hy : a.eval (.tmp 21) = x21) (hi : (Pr.info? t).map (·.size) = some 64)
    (hK : ∀ w', RI w A B f Wf (fun j => j = 5 ∨ L j) x21 x22 x5 x6 w' → K (a.put o.dst undef) w') : o.wp Pr a wr K Q := by
  have e1 := h.l1 h1
  obtain ⟨p, e5, hp, g, hg, -⟩ := h.l3 h3
  refine op_store_arr (f := Wf) hg t (.tmp 5) (.tmp 21) ho (hx.trans e5) (hy.trans e1) hi (hK _ ?_)
  subst e5
  exact h.t5 hp h3 hg
theorem RI.s6 (h : RI w A B f Wf L x21 x22 x5 x6 wr) (h4 : L 4) (h2 : L 2) (t : TypeId) (ho : o.op = .store t (.tmp 6) (.tmp 22)) (hx : a.eval (.tmp 6) = x6) (hy : a.eval (.tmp 22) = x22) (hi : (Pr.info? t).map (·.size) = some 8)
    (hK : ∀ w', RI w A B f Wf (fun j => j = 6 ∨ L j) x21 x22 x5 x6 w' → K (a.put o.dst undef) w') : o.wp Pr a wr K Q := by
  have e1 := h.l2 h2
  obtain ⟨p, e6, hp, g, hg, -⟩ := h.l4 h4
  refine op_store_arr (f := f) hg t (.tmp 6) (.tmp 22) ho (hx.trans e6) (hy.trans e1) hi (hK _ ?_)
  subst e6
  exact h.t6 hp h4 hg
end

structure X2 (w : World) (A B : Nat) (f : Nat → W32) (p5 p6 : Nat) (Wf g : Nat → W32) (wr : World) : Prop where
  ss : SS w A B f wr
  a5 : ArrAt wr p5 64 Wf
  a6 : ArrAt wr p6 8 g
  b5 : B < p5
  b6 : B < p6
  ne : p5 ≠ p6
section
variable {w : World} {A B : Nat} {f Wf g : Nat → W32} {p5 p6 : Nat} {wr : World}
theorem X2.next {w' : World} (h : X2 w A B f p5 p6 Wf g wr) (hb : Below wr.heap.size wr w') : X2 w A B f p5 p6 Wf g w' :=
  ⟨h.ss.next hb, h.a5.next hb h.a5.lt, h.a6.next hb h.a6.lt, h.b5, h.b6, h.ne⟩
theorem X2.row (h : X2 w A B f p5 p6 Wf g wr) (g' : Nat → W32) : X2 w A B f p5 p6 Wf g' (wr.setRow p6 (arrV 8 g')) :=
  ⟨h.ss.row h.b6 _, h.a5.rowOther _ (Ne.symm h.ne), h.a6.row, h.b5, h.b6, h.ne⟩
theorem X2.put (h : X2 w A B f p5 p6 Wf g wr) (i : Nat) (x : W32) : X2 w A B (upd f i x) p5 p6 Wf g (wr.setCell ⟨A, i, none⟩ (.int .u32 (nv x))) := by
  have h1 := h.ss.lo
  have h2 := h.ss.far
  have h5 := h.b5
  have h6 := h.b6
  exact ⟨⟨h.ss.bel.setCell (by simpa using h1) _, h.ss.h.set x, h.ss.k.other _ _ (by simp; omega), h1, h2⟩, h.a5.other _ _ (by simp; omega), h.a6.other _ _ (by simp; omega), h5, h6, h.ne⟩
theorem X2.same {f' : Nat → W32} (h : X2 w A B f p5 p6 Wf g wr) (he : ∀ i, i < 8 → f i = f' i) : X2 w A B f' p5 p6 Wf g wr :=
  ⟨⟨h.ss.bel, h.ss.h.same he, h.ss.k, h.ss.lo, h.ss.far⟩, h.a5, h.a6, h.b5, h.b6, h.ne⟩
end
theorem fn_add2 (h x : St) : ∀ i, i < 8 → plus h.fn x.fn 8 i = (addSt h x).fn i := by
  intro i hi
  unfold plus
  rw [if_pos hi]
  match i, hi with
  | 0, _ => rfl
  | 1, _ => rfl
  | 2, _ => rfl
  | 3, _ => rfl
  | 4, _ => rfl
  | 5, _ => rfl
  | 6, _ => rfl
  | 7, _ => rfl
theorem ext_next (S : ByteArray) (a : Nat) : (S.extract a S.size).extract 64 (S.extract a S.size).size = S.extract (a + 64) S.size := by
  apply ByteArray.ext
  simp only [ByteArray.data_extract, ByteArray.size_extract, Array.extract_extract]
  congr 1
  omega

attribute [-go_sem] loadCellsFrom
end Go.Proofs.Ytmakghcoehkphaa
end

section
/-
  SHA-256: the contracts of Sum and Twice, the program's and the document's. Conditions: no more than 2^40 bytes.
-/
namespace Go.Proofs.Ytmakghcoehkphaa
open Go.RowKit Go.BigFrame
set_option linter.unusedVariables false
set_option linter.unusedSimpArgs false

/-- The digest of a text, as a text. -/
def dig (s : ByteArray) : ByteArray := ⟨(sumL s.data.toList).toArray⟩
theorem dig_size (s : ByteArray) : (dig s).size = 32 := by unfold dig; rw [mk_size, sumL_len]
end Go.Proofs.Ytmakghcoehkphaa
end

section
/-
  The identity of a transaction: ident's functions and the document's. Conditions: no more than a thousand Outs; of the document's: the transaction may be.
-/
namespace Go.Proofs.Ytmakghcoehkphaa
open Go.RowKit Go.BigFrame
set_option linter.unusedVariables false
set_option linter.unusedSimpArgs false

/-- The id of a text. -/
def tw (l : List UInt8) : ByteArray := dig (dig (bL l))
theorem tw_size (l : List UInt8) : (tw l).size = 32 := dig_size _
noncomputable def idE (t : PTx) (b : Bool) : ByteArray := if checkOf t = 0 then tw (encL t b) else bL []
def weigh (t : PTx) : Int := 3 * (encL t false).length + (encL t (witOf t)).length
noncomputable def weightE (t : PTx) : Int := if checkOf t = 0 then weigh t else 0
noncomputable def sizeE (t : PTx) : Int := (weightE t + 3) / 4
/-- It returns this number and this error, and makes new blocks alone. -/
def NIs (n c : Int) (w : World) (e : Ending) (w' : World) : Prop := e = .returned (.tuple #[.int .i64 n, .int .i64 c]) ∧ Below w.heap.size w w'
def CIs' (c : Int) (w : World) (e : Ending) (w' : World) : Prop := e = .returned (.int .i64 c) ∧ Below w.heap.size w w'
theorem ret_ti {s s' : ByteArray} {c c' : Int} (h : s' = s) (h2 : c' = c) : Ending.returned (.tuple #[.string s, .int .i64 c]) = .returned (.tuple #[.string s', .int .i64 c']) := by rw [h, h2]
theorem ret_ni {s s' : Int} {c c' : Int} (h : s' = s) (h2 : c' = c) : Ending.returned (.tuple #[.int .i64 s, .int .i64 c]) = .returned (.tuple #[.int .i64 s', .int .i64 c']) := by rw [h, h2]
theorem ret_n {s s' : Int} (h : s' = s) : Ending.returned (.int .i64 s) = .returned (.int .i64 s') := by rw [h]
theorem ret_s {s s' : ByteArray} (h : s' = s) : Ending.returned (.string s) = .returned (.string s') := by rw [h]
theorem weigh_le {t : PTx} (he : Enc t) : 0 ≤ weigh t ∧ weigh t ≤ 800000 := by
  have h1 := encL_le he false
  have h2 := encL_le he (witOf t)
  unfold weigh
  omega
theorem weightE_le (t : PTx) : 0 ≤ weightE t ∧ weightE t ≤ 800000 := by
  unfold weightE
  split
  · rename_i h; exact weigh_le (enc_of (whole_of h))
  · omega
set_option maxRecDepth 100000 in
set_option maxHeartbeats 2000000 in
theorem iweight_any (v : Value) (t : PTx) (w : World) (hv : TxAt w v t) (hlen : t.outs.length ≤ 1000) : Calls Try.prog 40 #[v] w (NIs (weightE t) (checkOf t) w) := by
  obtain ⟨va, vo, rfl, hia, hob, hv1, hv2⟩ := hv
  obtain ⟨a, c, rfl, hl1, hl2⟩ := hia.shape
  obtain ⟨a', c', rfl, hl1', hl2'⟩ := hob.shape
  have HTB := Lib.hid (TB.start hia hob)
  have HV := Lib.hid (And.intro hv1 hv2)
  have HO := Lib.hid hlen
  clear hlen
  clear hia hob hv1 hv2 hl1 hl2 hl1' hl2'
  go_enter Try.func40, Try.ntmps40
  go_upto_region 1 with fail
  obtain ⟨n, hn⟩ : ∃ n, n = t.ins.length := ⟨_, rfl⟩
  obtain ⟨n', hn'⟩ : ∃ n, n = t.outs.length := ⟨_, rfl⟩
  rw [← hn, ← hn'] at HTB
  rw [← hn, ← hn']
  clear hn hn'
  generalize w.alloc (.cells #[.int .u32 t.ver, .slice a n c, .slice a' n' c', .int .u32 t.lock] 43) = w0 at *
  have c0 : w0.cell? ⟨w.heap.size, 0, none⟩ = some (.int .u32 t.ver) := cell_at HTB.out.box
  have c1 : w0.cell? ⟨w.heap.size, 1, none⟩ = some (.slice a n c) := cell_at HTB.out.box
  have c2 : w0.cell? ⟨w.heap.size, 2, none⟩ = some (.slice a' n' c') := cell_at HTB.out.box
  have c3 : w0.cell? ⟨w.heap.size, 3, none⟩ = some (.int .u32 t.lock) := cell_at HTB.out.box
  obtain ⟨s, hs⟩ : ∃ s, s = encE t false := ⟨_, rfl⟩
  obtain ⟨s', hs'⟩ : ∃ s, s = encE t (witOf t) := ⟨_, rfl⟩
  have HCK := Lib.hid (wbare_any _ t w0 (HTB.out.tx HV.out) HO.out)
  rw [← hs] at HCK
  by_cases hc : checkOf t = 0
  · have he := enc_of (whole_of hc)
    have hs2 : s = bL (encL t false) := hs.trans (if_pos hc)
    have hs2' : s' = bL (encL t (witOf t)) := hs'.trans (if_pos hc)
    have hz : s.size ≤ 200000 := by rw [hs2, bL_size]; exact encL_le he false
    have hz' : s'.size ≤ 200000 := by rw [hs2', bL_size]; exact encL_le he _
    have HR := Lib.hid (show weightE t = 3 * (s.size : Int) + (s'.size : Int) from (if_pos hc).trans (by rw [hs2, hs2', bL_size, bL_size]; rfl))
    have HS' := Lib.hid hs'
    have HC0 := Lib.hid hc
    rw [hc] at HCK
    clear hc hs2 hs2' hs hs' he
    go_wp2_with fail
    refine (HCK.out).mono ?_
    rintro e w1 ⟨rfl, hb⟩
    replace c0 := below_cells hb _ _ c0
    replace c1 := below_cells hb _ _ c1
    replace c2 := below_cells hb _ _ c2
    replace c3 := below_cells hb _ _ c3
    have HTB := Lib.hid (HTB.out.next hb)
    clear hb
    go_wp2_with fail
    have HCK2 := Lib.hid (wenc_any _ t w1 (HTB.out.tx HV.out) HO.out)
    rw [HC0.out, ← HS'.out] at HCK2
    refine (HCK2.out).mono ?_
    rintro e w2 ⟨rfl, hb⟩
    have HB := Lib.hid (HTB.out.next hb).bel
    clear hb
    go_wp2_with fail
    go_ret2
    exact ⟨ret_ni HR.out HC0.out, HB.out⟩
  · have HF := Lib.hid (show weightE t = 0 from if_neg hc)
    have hc0 := hc
    clear hs hs'
    obtain ⟨ck, hck⟩ : ∃ ck, ck = checkOf t := ⟨_, rfl⟩
    rw [← hck] at HCK hc0 hc
    have HK := Lib.hid hck.symm
    have hne : (ck == 0) = false := by simpa using hc0
    clear hck
    go_wp2_with fail
    refine (HCK.out).mono ?_
    rintro e w1 ⟨rfl, hb⟩
    have HTB := Lib.hid (HTB.out.next hb)
    clear hb
    have HB := Lib.hid HTB.out.bel
    go_wp2_with fail
    go_ret2
    exact ⟨ret_ni HF.out HK.out, HB.out⟩
set_option maxRecDepth 100000 in
set_option maxHeartbeats 2000000 in
theorem isize_any (v : Value) (t : PTx) (w : World) (hv : TxAt w v t) (hlen : t.outs.length ≤ 1000) : Calls Try.prog 18 #[v] w (NIs (sizeE t) (checkOf t) w) := by
  obtain ⟨va, vo, rfl, hia, hob, hv1, hv2⟩ := hv
  obtain ⟨a, c, rfl, hl1, hl2⟩ := hia.shape
  obtain ⟨a', c', rfl, hl1', hl2'⟩ := hob.shape
  have HTB := Lib.hid (TB.start hia hob)
  have HV := Lib.hid (And.intro hv1 hv2)
  have HO := Lib.hid hlen
  clear hlen
  clear hia hob hv1 hv2 hl1 hl2 hl1' hl2'
  go_enter Try.func18, Try.ntmps18
  go_upto_region 1 with fail
  obtain ⟨n, hn⟩ : ∃ n, n = t.ins.length := ⟨_, rfl⟩
  obtain ⟨n', hn'⟩ : ∃ n, n = t.outs.length := ⟨_, rfl⟩
  rw [← hn, ← hn'] at HTB
  rw [← hn, ← hn']
  clear hn hn'
  generalize w.alloc (.cells #[.int .u32 t.ver, .slice a n c, .slice a' n' c', .int .u32 t.lock] 43) = w0 at *
  have c0 : w0.cell? ⟨w.heap.size, 0, none⟩ = some (.int .u32 t.ver) := cell_at HTB.out.box
  have c1 : w0.cell? ⟨w.heap.size, 1, none⟩ = some (.slice a n c) := cell_at HTB.out.box
  have c2 : w0.cell? ⟨w.heap.size, 2, none⟩ = some (.slice a' n' c') := cell_at HTB.out.box
  have c3 : w0.cell? ⟨w.heap.size, 3, none⟩ = some (.int .u32 t.lock) := cell_at HTB.out.box
  obtain ⟨wt, hwt⟩ : ∃ r, r = weightE t := ⟨_, rfl⟩
  have hle := weightE_le t
  have HSZ := Lib.hid (show sizeE t = (wt + 3) / 4 by rw [hwt]; rfl)
  have HCK := Lib.hid (iweight_any _ t w0 (HTB.out.tx HV.out) HO.out)
  rw [← hwt] at HCK hle
  have hl1 := hle.1
  have hl2 := hle.2
  clear hle hwt
  obtain ⟨ck, hck⟩ : ∃ ck, ck = checkOf t := ⟨_, rfl⟩
  rw [← hck] at HCK
  have HK := Lib.hid hck.symm
  clear hck
  go_wp2_with fail
  refine (HCK.out).mono ?_
  rintro e w1 ⟨rfl, hb⟩
  have HTB := Lib.hid (HTB.out.next hb)
  clear hb
  have HB := Lib.hid HTB.out.bel
  go_wp2_with fail
  go_ret2
  refine ⟨ret_ni (HSZ.out.trans ?_) HK.out, HB.out⟩
  show _ = _
  first | omega | (rw [show wt + 4 - 1 = wt + 3 by omega]; omega)
end Go.Proofs.Ytmakghcoehkphaa
end

section
/-
  The document's Same. Conditions: none beyond each theorem's own.
-/
namespace Go.Proofs.Ytmakghcoehkphaa
open Go.RowKit Go.BigFrame
set_option linter.unusedVariables false
set_option linter.unusedSimpArgs false

noncomputable def sameTx (t u : PTx) : Bool := @decide (t = u) (Classical.propDecidable _)
theorem same_yes {t u : PTx} (h : t = u) : sameTx t u = true := @decide_eq_true _ (Classical.propDecidable _) h
theorem same_no {t u : PTx} (h : t ≠ u) : sameTx t u = false := @decide_eq_false _ (Classical.propDecidable _) h

/-- The call's boxes of two transactions. -/
structure T2 (w : World) (va vo vc vq : Value) (t u : PTx) (wr : World) : Prop where
  bel : Below w.heap.size w wr
  box1 : wr.heap[w.heap.size]? = some (.cells #[.int .u32 t.ver, va, vo, .int .u32 t.lock] 43 (0, 0))
  box2 : wr.heap[w.heap.size + 1]? = some (.cells #[.int .u32 u.ver, vc, vq, .int .u32 u.lock] 43 (0, 0))
  ins1 : SlAt rpIn wr va t.ins
  outs1 : SlAt rpOut wr vo t.outs
  ins2 : SlAt rpIn wr vc u.ins
  outs2 : SlAt rpOut wr vq u.outs
theorem T2.next {w wr w' : World} {va vo vc vq : Value} {t u : PTx} (h : T2 w va vo vc vq t u wr) (hb : Below wr.heap.size wr w') : T2 w va vo vc vq t u w' :=
  ⟨h.bel.trans (hb.mono h.bel.size), by rw [hb.block _ (Array.getElem?_eq_some_iff.1 h.box1).1]; exact h.box1, by rw [hb.block _ (Array.getElem?_eq_some_iff.1 h.box2).1]; exact h.box2, h.ins1.below hb, h.outs1.below hb, h.ins2.below hb, h.outs2.below hb⟩
theorem T2.start {w : World} {va vo vc vq : Value} {t u : PTx} (h1 : SlAt rpIn w va t.ins) (h2 : SlAt rpOut w vo t.outs) (h3 : SlAt rpIn w vc u.ins) (h4 : SlAt rpOut w vq u.outs) :
    T2 w va vo vc vq t u ((w.alloc (.cells #[.int .u32 t.ver, va, vo, .int .u32 t.lock] 43)).alloc (.cells #[.int .u32 u.ver, vc, vq, .int .u32 u.lock] 43)) := by
  have s1 : (w.alloc (.cells #[.int .u32 t.ver, va, vo, .int .u32 t.lock] 43)).heap.size = w.heap.size + 1 := by simp
  have hb : Below w.heap.size w ((w.alloc (.cells #[.int .u32 t.ver, va, vo, .int .u32 t.lock] 43)).alloc (.cells #[.int .u32 u.ver, vc, vq, .int .u32 u.lock] 43)) :=
    ((Below.refl _ _).alloc (Nat.le_refl _) _).alloc (by rw [s1]; omega) _
  refine ⟨hb, ?_, ?_, h1.below hb, h2.below hb, h3.below hb, h4.below hb⟩
  · rw [Below.heap_alloc _ _ _ (by rw [s1]; omega)]
    exact heap_alloc_new w _
  · rw [← s1]
    exact heap_alloc_new _ _
theorem tx_same {t u : PTx} (h1 : t.ver = u.ver) (h2 : t.ins = u.ins) (h3 : t.outs = u.outs) (h4 : t.lock = u.lock) : t = u := by
  cases t; cases u; simp only at h1 h2 h3 h4; rw [h1, h2, h3, h4]
theorem in_same {t u : PIn} (h1 : t.id = u.id) (h2 : t.idx = u.idx) (h3 : t.seq = u.seq) (h4 : t.wit = u.wit) : t = u := by
  cases t; cases u; simp only at h1 h2 h3 h4; rw [h1, h2, h3, h4]
theorem out_same {t u : POut} (h1 : t.val = u.val) (h2 : t.script = u.script) : t = u := by
  cases t; cases u; simp only at h1 h2; rw [h1, h2]
theorem list_same {α : Type} {xs ys : List α} (hl : xs.length = ys.length) (h : ∀ (j : Nat) (x y : α), j < xs.length → xs[j]? = some x → ys[j]? = some y → x = y) : xs = ys := by
  apply List.ext_getElem hl
  intro i h1 h2
  exact h i _ _ h1 (List.getElem?_eq_getElem h1) (List.getElem?_eq_getElem h2)
theorem same_step {α : Type} {xs ys : List α} {k : Nat} {x y : α} (h : ∀ (j : Nat) (x y : α), j < k → xs[j]? = some x → ys[j]? = some y → x = y) (hx : xs[k]? = some x) (hy : ys[k]? = some y) (he : x = y) : ∀ (j : Nat) (x y : α), j < k + 1 → xs[j]? = some x → ys[j]? = some y → x = y := by
  intro j x' y' hj hx' hy'
  rcases Nat.lt_or_ge j k with h1 | h1
  · exact h j x' y' h1 hx' hy'
  · obtain rfl : j = k := by omega
    rw [hx] at hx'
    rw [hy] at hy'
    obtain rfl := Option.some.inj hx'
    obtain rfl := Option.some.inj hy'
    exact he
theorem ne_at {α : Type} {xs ys : List α} {k : Nat} {x y : α} (hx : xs[k]? = some x) (hy : ys[k]? = some y) (hne : x ≠ y) : xs ≠ ys := by
  rintro rfl
  rw [hx] at hy
  exact hne (Option.some.inj hy)
theorem bytes_ne {a b : ByteArray} (h : a ≠ b) : (a.toList == b.toList) = false := by
  rw [ByteArray.toList_eq, ByteArray.toList_eq, beq_eq_false_iff_ne]
  intro h'
  apply h
  cases a; cases b
  simp at h'
  rw [h']
theorem bytes_ne' {a b : ByteArray} (h : a ≠ b) : (a.toList != b.toList) = true := by
  rw [bne, bytes_ne h]; rfl

set_option maxRecDepth 100000 in
set_option maxHeartbeats 4000000 in
theorem same_any (v1 v2 : Value) (t u : PTx) (w : World) (h1 : TxAt w v1 t) (h2 : TxAt w v2 u) : Calls Try.prog 10 #[v1, v2] w (BIs (sameTx t u) w) := by
  obtain ⟨va, vo, rfl, hia, hob, -, -⟩ := h1
  obtain ⟨vc, vq, rfl, hic, hoq, -, -⟩ := h2
  obtain ⟨a, c, rfl, hl1, hl2⟩ := hia.shape
  obtain ⟨a', c', rfl, hl1', hl2'⟩ := hob.shape
  obtain ⟨e, g, rfl, hm1, hm2⟩ := hic.shape
  obtain ⟨e', g', rfl, hm1', hm2'⟩ := hoq.shape
  rw [maxLen_eq] at hl2 hl2' hm2 hm2'
  have htb := T2.start (t := t) (u := u) hia hob hic hoq
  have HTB := Lib.hid htb
  clear htb hia hob hic hoq
  obtain ⟨r, hr⟩ : ∃ r, r = sameTx t u := ⟨_, rfl⟩
  rw [← hr]
  have HR := Lib.hid hr
  clear hr
  obtain ⟨n, hn⟩ : ∃ n, n = t.ins.length := ⟨_, rfl⟩
  obtain ⟨n', hn'⟩ : ∃ n, n = t.outs.length := ⟨_, rfl⟩
  obtain ⟨m, hm⟩ : ∃ n, n = u.ins.length := ⟨_, rfl⟩
  obtain ⟨m', hm'⟩ : ∃ n, n = u.outs.length := ⟨_, rfl⟩
  rw [← hn, ← hn', ← hm, ← hm'] at HTB
  rw [← hn] at hl1
  rw [← hn'] at hl1'
  rw [← hm] at hm1
  rw [← hm'] at hm1'
  rw [← hn, ← hn', ← hm, ← hm']
  have HN := Lib.hid hn
  have HN' := Lib.hid hn'
  have HM := Lib.hid hm
  have HM' := Lib.hid hm'
  clear hn hn' hm hm'
  go_enter Try.func10, Try.ntmps10
  go_upto_region 1 with fail
  generalize (w.alloc (.cells #[.int .u32 t.ver, .slice a n c, .slice a' n' c', .int .u32 t.lock] 43)).alloc (.cells #[.int .u32 u.ver, .slice e m g, .slice e' m' g', .int .u32 u.lock] 43) = w0 at *
  have c0 : w0.cell? ⟨w.heap.size, 0, none⟩ = some (.int .u32 t.ver) := cell_at HTB.out.box1
  have c1 : w0.cell? ⟨w.heap.size, 1, none⟩ = some (.slice a n c) := cell_at HTB.out.box1
  have c2 : w0.cell? ⟨w.heap.size, 2, none⟩ = some (.slice a' n' c') := cell_at HTB.out.box1
  have c3 : w0.cell? ⟨w.heap.size, 3, none⟩ = some (.int .u32 t.lock) := cell_at HTB.out.box1
  have d0 : w0.cell? ⟨w.heap.size + 1, 0, none⟩ = some (.int .u32 u.ver) := cell_at HTB.out.box2
  have d1 : w0.cell? ⟨w.heap.size + 1, 1, none⟩ = some (.slice e m g) := cell_at HTB.out.box2
  have d2 : w0.cell? ⟨w.heap.size + 1, 2, none⟩ = some (.slice e' m' g') := cell_at HTB.out.box2
  have d3 : w0.cell? ⟨w.heap.size + 1, 3, none⟩ = some (.int .u32 u.lock) := cell_at HTB.out.box2
  by_cases hver : t.ver = u.ver
  rotate_left
  · have hz : (t.ver : Int) ≠ u.ver := by omega
    have HF := Lib.hid (same_no (fun h : t = u => hver (by rw [h])))
    go_wp2_with fail
    go_ret
    exact ⟨ret_bool (by rw [HR.out, HF.out]), HTB.out.bel⟩
  rw [← hver] at d0
  by_cases hlock : t.lock = u.lock
  rotate_left
  · have hz : (t.lock : Int) ≠ u.lock := by omega
    have HF := Lib.hid (same_no (fun h : t = u => hlock (by rw [h])))
    go_wp2_with fail
    go_ret
    exact ⟨ret_bool (by rw [HR.out, HF.out]), HTB.out.bel⟩
  rw [← hlock] at d3
  by_cases hnm : n = m
  rotate_left
  · have hz : (n : Int) ≠ m := by omega
    have HF := Lib.hid (same_no (fun h : t = u => hnm (by rw [HN.out, HM.out, h])))
    go_wp2_with fail
    go_ret
    exact ⟨ret_bool (by rw [HR.out, HF.out]), HTB.out.bel⟩
  subst hnm
  by_cases hnm : n' = m'
  rotate_left
  · have hz : (n' : Int) ≠ m' := by omega
    have HF := Lib.hid (same_no (fun h : t = u => hnm (by rw [HN'.out, HM'.out, h])))
    go_wp2_with fail
    go_ret
    exact ⟨ret_bool (by rw [HR.out, HF.out]), HTB.out.bel⟩
  subst hnm
  have HV := Lib.hid (And.intro hver hlock)
  clear hver hlock
  go_wp2_with fail
  go_loopg [5] n (fun gq i wr => ∃ (k : Nat), gq = n - k ∧ k ≤ n ∧ i = .int .i64 k ∧ T2 w (.slice a n c) (.slice a' n' c') (.slice e n g) (.slice e' n' g') t u wr ∧ ∀ (j : Nat) (x y : PIn), j < k → t.ins[j]? = some x → u.ins[j]? = some y → x = y)
  case atStart => exact ⟨0, rfl, by omega, rfl, HTB.out, fun j x y hj => absurd hj (Nat.not_lt_zero _)⟩
  case round =>
    clear c0 c1 c2 c3 d0 d1 d2 d3 HTB
    rename World => wo
    obtain ⟨k, hgk, hk, rfl, htb, hall⟩ := hrel
    have HGK := Lib.hid hgk
    have HALL := Lib.hid hall
    have HTB := Lib.hid htb
    have c1 : wo.cell? ⟨w.heap.size, 1, none⟩ = some (.slice a n c) := cell_at htb.box1
    have d1 : wo.cell? ⟨w.heap.size + 1, 1, none⟩ = some (.slice e n g) := cell_at htb.box2
    clear hgk hall htb
    by_cases hlt : k < n
    · obtain ⟨b, o, x, wv, rfl, hx, hseq, hidx, hid, hwv, x0, x1, x2, x3⟩ := HTB.out.ins1.inp hlt
      obtain ⟨b2, o2, y, wv2, rfl, hy, hseq2, hidx2, hid2, hwv2, y0, y1, y2, y3⟩ := HTB.out.ins2.inp hlt
      obtain ⟨wa, wc, rfl, hw1, hw2⟩ := hwv.shape
      obtain ⟨wa2, wc2, rfl, hw12, hw22⟩ := hwv2.shape
      rw [maxLen_eq] at hw2 hw22
      have HX := Lib.hid hx
      have HY := Lib.hid hy
      obtain ⟨l, hl⟩ : ∃ l, l = x.wit.length := ⟨_, rfl⟩
      obtain ⟨l2, hl2⟩ : ∃ l, l = y.wit.length := ⟨_, rfl⟩
      rw [← hl] at hwv hw1 x3
      rw [← hl2] at hwv2 hw12 y3
      have HW := Lib.hid hwv
      have HW2 := Lib.hid hwv2
      have HL := Lib.hid hl
      have HL2 := Lib.hid hl2
      clear hx hy hwv hwv2 hl hl2
      go_upto_region 7 with fail
      have hz := heap_alloc_new wo (.cells #[.string x.id, .int .u32 x.idx, .int .u32 x.seq, .slice wa l wc] 81)
      have hb : Below wo.heap.size wo (wo.alloc (.cells #[.string x.id, .int .u32 x.idx, .int .u32 x.seq, .slice wa l wc] 81)) := (Below.refl _ _).alloc (Nat.le_refl _) _
      obtain ⟨X, hX⟩ : ∃ X, X = wo.heap.size := ⟨_, rfl⟩
      rw [← hX] at hz ⊢
      generalize wo.alloc (.cells #[.string x.id, .int .u32 x.idx, .int .u32 x.seq, .slice wa l wc] 81) = w1 at *
      replace y0 := below_cells hb _ _ y0
      replace y1 := below_cells hb _ _ y1
      replace y2 := below_cells hb _ _ y2
      replace y3 := below_cells hb _ _ y3
      replace d1 := below_cells hb _ _ d1
      have HT1 := Lib.hid (HTB.out.next hb)
      have HW := Lib.hid (HW.out.below hb)
      have HW2 := Lib.hid (HW2.out.below hb)
      have p0 : w1.cell? ⟨X, 0, none⟩ = some (.string x.id) := cell_at hz
      have p1 : w1.cell? ⟨X, 1, none⟩ = some (.int .u32 x.idx) := cell_at hz
      have p2 : w1.cell? ⟨X, 2, none⟩ = some (.int .u32 x.seq) := cell_at hz
      have p3 : w1.cell? ⟨X, 3, none⟩ = some (.slice wa l wc) := cell_at hz
      clear hz hb hX c1 x0 x1 x2 x3 HTB
      go_upto_region 8 with fail
      have hz := heap_alloc_new w1 (.cells #[.string y.id, .int .u32 y.idx, .int .u32 y.seq, .slice wa2 l2 wc2] 81)
      have hb : Below w1.heap.size w1 (w1.alloc (.cells #[.string y.id, .int .u32 y.idx, .int .u32 y.seq, .slice wa2 l2 wc2] 81)) := (Below.refl _ _).alloc (Nat.le_refl _) _
      obtain ⟨Y, hY⟩ : ∃ Y, Y = w1.heap.size := ⟨_, rfl⟩
      rw [← hY] at hz ⊢
      generalize w1.alloc (.cells #[.string y.id, .int .u32 y.idx, .int .u32 y.seq, .slice wa2 l2 wc2] 81) = w2 at *
      replace p0 := below_cells hb _ _ p0
      replace p1 := below_cells hb _ _ p1
      replace p2 := below_cells hb _ _ p2
      replace p3 := below_cells hb _ _ p3
      have HT2 := Lib.hid (HT1.out.next hb)
      have HW := Lib.hid (HW.out.below hb)
      have HW2 := Lib.hid (HW2.out.below hb)
      have q0 : w2.cell? ⟨Y, 0, none⟩ = some (.string y.id) := cell_at hz
      have q1 : w2.cell? ⟨Y, 1, none⟩ = some (.int .u32 y.idx) := cell_at hz
      have q2 : w2.cell? ⟨Y, 2, none⟩ = some (.int .u32 y.seq) := cell_at hz
      have q3 : w2.cell? ⟨Y, 3, none⟩ = some (.slice wa2 l2 wc2) := cell_at hz
      clear hz hb hY d1 y0 y1 y2 y3 HT1
      have hdiff : ∀ (_ : x ≠ y), sameTx t u = false := fun hne => same_no (fun h => ne_at HX.out HY.out hne (by rw [h]))
      have HD := Lib.hid hdiff
      clear hdiff
      by_cases hid1 : x.id = y.id
      rotate_left
      · have hbe := bytes_ne hid1
        have hbe' := bytes_ne' hid1
        have HF := Lib.hid (HD.out (fun h => hid1 (by rw [h])))
        go_wp2_with fail
        go_ret
        exact ⟨ret_bool (by rw [HR.out, HF.out]), HT2.out.bel⟩
      rw [← hid1] at q0
      by_cases hix : x.idx = y.idx
      rotate_left
      · have hne : (x.idx : Int) ≠ y.idx := by omega
        have HF := Lib.hid (HD.out (fun h => hix (by rw [h])))
        go_wp2_with fail
        go_ret
        exact ⟨ret_bool (by rw [HR.out, HF.out]), HT2.out.bel⟩
      rw [← hix] at q1
      by_cases hsq : x.seq = y.seq
      rotate_left
      · have hne : (x.seq : Int) ≠ y.seq := by omega
        have HF := Lib.hid (HD.out (fun h => hsq (by rw [h])))
        go_wp2_with fail
        go_ret
        exact ⟨ret_bool (by rw [HR.out, HF.out]), HT2.out.bel⟩
      rw [← hsq] at q2
      by_cases hll : l = l2
      rotate_left
      · have hne : (l : Int) ≠ l2 := by omega
        have HF := Lib.hid (HD.out (fun h => hll (by rw [HL.out, HL2.out, h])))
        go_wp2_with fail
        go_ret
        exact ⟨ret_bool (by rw [HR.out, HF.out]), HT2.out.bel⟩
      subst hll
      have HE := Lib.hid (show x.wit = y.wit → x = y from fun h => in_same hid1 hix hsq h)
      go_wp2_with fail
      clear hid1 hix hsq
      go_loopg [8] l (fun gq i wr => ∃ (z : Nat), gq = l - z ∧ z ≤ l ∧ i = .int .i64 z ∧ Below w2.heap.size w2 wr ∧ ∀ (j : Nat) (r s : ByteArray), j < z → x.wit[j]? = some r → y.wit[j]? = some s → r = s)
      case atStart => exact ⟨0, rfl, by omega, rfl, Below.refl _ _, fun j r s hj => absurd hj (Nat.not_lt_zero _)⟩
      case round =>
        rename World => wq
        obtain ⟨z, hgz, hz, rfl, hb, hall⟩ := hrel
        have HGZ := Lib.hid hgz
        have HAZ := Lib.hid hall
        have HB := Lib.hid hb
        have r3 := below_cells hb _ _ p3
        have s3 := below_cells hb _ _ q3
        have hw := HW.out.below hb
        have hw2 := HW2.out.below hb
        clear hgz hall hb
        by_cases hzl : z < l
        · obtain ⟨b3, o3, r1, rfl, hr1, hrs, e0⟩ := hw.str hzl
          obtain ⟨b4, o4, s1, rfl, hs1, hss, f0⟩ := hw2.str hzl
          have HR1 := Lib.hid hr1
          have HS1 := Lib.hid hs1
          clear hw hw2 hr1 hs1
          by_cases hrs1 : r1 = s1
          · subst hrs1
            have HNX := Lib.hid (same_step HAZ.out HR1.out HS1.out rfl)
            go_wp2_with fail
            go_quiet (fail)
            have HBZ := Lib.hid (HB.out.trans (show Below w2.heap.size wq (wq.drewN nq) from ⟨rfl, rfl, rfl, Nat.le_refl _, fun _ _ => rfl⟩))
            go_wp2_with fail
            go_roundg (l - (z + 1))
            case measure => have := HGZ.out; omega
            case rel => exact ⟨z + 1, rfl, by omega, by go_num, HBZ.out, HNX.out⟩
          · have hbe := bytes_ne hrs1
            have hbe' := bytes_ne' hrs1
            have HF := Lib.hid (HD.out (fun h => ne_at HR1.out HS1.out hrs1 (by rw [h])))
            go_wp2_with fail
            go_quiet (fail)
            have HBZ := Lib.hid (HT2.out.next (HB.out.trans (show Below w2.heap.size wq (wq.drewN nq) from ⟨rfl, rfl, rfl, Nat.le_refl _, fun _ _ => rfl⟩)))
            go_wp2_with fail
            go_ret
            exact ⟨ret_bool (by rw [HR.out, HF.out]), HBZ.out.bel⟩
        · obtain rfl : z = l := by omega
          have HNX := Lib.hid (same_step HALL.out HX.out HY.out (HE.out (list_same (by rw [← HL.out, ← HL2.out]) (by rw [← HL.out]; exact HAZ.out))))
          have HT3 := Lib.hid (HT2.out.next HB.out)
          go_wp2_with fail
          go_roundg (n - (k + 1))
          case measure => have := HGK.out; omega
          case rel => exact ⟨k + 1, rfl, by omega, by go_num, HT3.out, HNX.out⟩
    · obtain rfl : k = n := by omega
      have HI := Lib.hid (list_same (xs := t.ins) (ys := u.ins) (by rw [← HN.out, ← HM.out]) (by rw [← HN.out]; exact HALL.out))
      clear HALL HGK hlt hk
      go_wp2_with fail
      go_loopg [9] n' (fun gq i wr => ∃ (q : Nat), gq = n' - q ∧ q ≤ n' ∧ i = .int .i64 q ∧ T2 w (.slice a k c) (.slice a' n' c') (.slice e k g) (.slice e' n' g') t u wr ∧ ∀ (j : Nat) (x y : POut), j < q → t.outs[j]? = some x → u.outs[j]? = some y → x = y)
      case atStart => exact ⟨0, rfl, by omega, rfl, HTB.out, fun j x y hj => absurd hj (Nat.not_lt_zero _)⟩
      case round =>
        clear c1 d1 HTB
        rename World => wp
        obtain ⟨q, hgq, hq, rfl, htb, hall⟩ := hrel
        have HGQ := Lib.hid hgq
        have HALL := Lib.hid hall
        have HTB := Lib.hid htb
        have c2 : wp.cell? ⟨w.heap.size, 2, none⟩ = some (.slice a' n' c') := cell_at htb.box1
        have d2 : wp.cell? ⟨w.heap.size + 1, 2, none⟩ = some (.slice e' n' g') := cell_at htb.box2
        clear hgq hall htb
        by_cases hlt : q < n'
        · obtain ⟨b, o, x, rfl, hx, hok, x0, x1⟩ := HTB.out.outs1.outp hlt
          obtain ⟨b2, o2, y, rfl, hy, hok2, y0, y1⟩ := HTB.out.outs2.outp hlt
          have HX := Lib.hid hx
          have HY := Lib.hid hy
          clear hx hy
          have HD := Lib.hid (show x ≠ y → sameTx t u = false from fun hne => same_no (fun h => ne_at HX.out HY.out hne (by rw [h])))
          by_cases hvl : x.val = y.val
          · rw [← hvl] at y0
            by_cases hsc : x.script = y.script
            · rw [← hsc] at y1
              have HNX := Lib.hid (same_step HALL.out HX.out HY.out (out_same hvl hsc))
              go_wp2_with fail
              go_quiet (fail)
              have HTZ := Lib.hid (HTB.out.next (w' := wp.drewN nq) ⟨rfl, rfl, rfl, Nat.le_refl _, fun _ _ => rfl⟩)
              go_wp2_with fail
              go_roundg (n' - (q + 1))
              case measure => have := HGQ.out; omega
              case rel => exact ⟨q + 1, rfl, by omega, by go_num, HTZ.out, HNX.out⟩
            · have hbe := bytes_ne hsc
              have hbe' := bytes_ne' hsc
              have HF := Lib.hid (HD.out (fun h => hsc (by rw [h])))
              go_wp2_with fail
              go_quiet (fail)
              have HTZ := Lib.hid (HTB.out.next (w' := wp.drewN nq) ⟨rfl, rfl, rfl, Nat.le_refl _, fun _ _ => rfl⟩)
              go_wp2_with fail
              go_ret
              exact ⟨ret_bool (by rw [HR.out, HF.out]), HTZ.out.bel⟩
          · have HF := Lib.hid (HD.out (fun h => hvl (by rw [h])))
            go_wp2_with fail
            go_quiet (fail)
            have HTZ := Lib.hid (HTB.out.next (w' := wp.drewN nq) ⟨rfl, rfl, rfl, Nat.le_refl _, fun _ _ => rfl⟩)
            go_wp2_with fail
            go_ret
            exact ⟨ret_bool (by rw [HR.out, HF.out]), HTZ.out.bel⟩
        · obtain rfl : q = n' := by omega
          have HF := Lib.hid (same_yes (tx_same HV.out.1 HI.out (list_same (by rw [← HN'.out, ← HM'.out]) (by rw [← HN'.out]; exact HALL.out)) HV.out.2))
          go_wp2_with fail
          go_ret
          exact ⟨ret_bool (by rw [HR.out, HF.out]), HTB.out.bel⟩
end Go.Proofs.Ytmakghcoehkphaa
end
