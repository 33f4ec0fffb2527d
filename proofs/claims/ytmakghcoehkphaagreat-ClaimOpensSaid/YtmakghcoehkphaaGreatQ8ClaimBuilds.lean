/-
  ClaimBuilds, part 8: the texts New, Scr, Cp, Kd, Kf, Regv, one after another. Conditions: none beyond those named at each.
-/
import Derived.Test.YtmakghcoehkphaaGreatQ1ClaimBuilds
import Derived.Test.YtmakghcoehkphaaGreatQ4ClaimBuilds
import Derived.Test.YtmakghcoehkphaaGreatQ5ClaimBuilds
import Derived.Test.YtmakghcoehkphaaGreatIa
import Derived.Test.YtmakghcoehkphaaGreatTxQ
import Derived.Test.YtmakghcoehkphaaGreatCa
import Derived.Test.YtmakghcoehkphaaGreatFit
import Derived.Test.YtmakghcoehkphaaGreatQ7ClaimBuilds
section
/-
  Two or three blocks made one behind the other. Conditions: none.
-/
namespace Go.Proofs.YtmakghcoehkphaaGreat
open Go.RowKit Go.BigFrame
theorem stay {w w1 : World} {b : Nat} {ob : Obj} (h : w.heap[b]? = some ob) (hb : Below w.heap.size w w1) : w1.heap[b]? = some ob := (hb.block _ (Array.getElem?_eq_some_iff.1 h).1).trans h
theorem stay_set {w : World} {b B j : Nat} {ob : Obj} {u : Value} (h : w.heap[b]? = some ob) (hb : b ≠ B) : (w.setCell ⟨B, j, none⟩ u).heap[b]? = some ob := (Below.heap_setCell _ _ _ _ hb).trans h
theorem lt_of {w : World} {b : Nat} {ob : Obj} (h : w.heap[b]? = some ob) : b < w.heap.size := (Array.getElem?_eq_some_iff.1 h).1
theorem new2 (w : World) (X : Nat) (hX : X = w.heap.size) (o1 o2 : Obj) : ((w.alloc o1).alloc o2).heap[X]? = some o1 ∧ ((w.alloc o1).alloc o2).heap[X + 1]? = some o2 ∧ Below w.heap.size w ((w.alloc o1).alloc o2) := by
  subst hX
  have h1 := heap_alloc_new w o1
  have h2 := heap_alloc_new (w.alloc o1) o2
  have hs : (w.alloc o1).heap.size = w.heap.size + 1 := by simp
  have hb : Below (w.alloc o1).heap.size (w.alloc o1) ((w.alloc o1).alloc o2) := (Below.refl _ _).alloc (Nat.le_refl _) o2
  rw [hs] at h2
  exact ⟨(hb.block _ (Array.getElem?_eq_some_iff.1 h1).1).trans h1, h2, ((Below.refl _ _).alloc (Nat.le_refl _) o1).trans (hb.mono (by omega))⟩
theorem new3 (w : World) (X : Nat) (hX : X = w.heap.size) (o1 o2 o3 : Obj) : (((w.alloc o1).alloc o2).alloc o3).heap[X]? = some o1 ∧ (((w.alloc o1).alloc o2).alloc o3).heap[X + 1]? = some o2 ∧ (((w.alloc o1).alloc o2).alloc o3).heap[X + 1 + 1]? = some o3 ∧ Below w.heap.size w (((w.alloc o1).alloc o2).alloc o3) := by
  obtain ⟨h1, h2, h3⟩ := new2 w X hX o1 o2
  subst hX
  have h4 := heap_alloc_new ((w.alloc o1).alloc o2) o3
  have hs : ((w.alloc o1).alloc o2).heap.size = w.heap.size + 1 + 1 := by simp
  have hb : Below ((w.alloc o1).alloc o2).heap.size ((w.alloc o1).alloc o2) (((w.alloc o1).alloc o2).alloc o3) := (Below.refl _ _).alloc (Nat.le_refl _) o3
  rw [hs] at h4
  exact ⟨(hb.block _ (Array.getElem?_eq_some_iff.1 h1).1).trans h1, (hb.block _ (Array.getElem?_eq_some_iff.1 h2).1).trans h2, h4, h3.trans (hb.mono (by omega))⟩
end Go.Proofs.YtmakghcoehkphaaGreat
end

section
/-
  The script that pays to a tag, both ways. Conditions: the tag is a number.
-/
namespace Go.Proofs.YtmakghcoehkphaaGreat
open Go.RowKit Go.BigFrame
set_option linter.unusedVariables false
set_option linter.unusedSimpArgs false

/-- The script that pays to a tag. -/
def scrL (t : Nat) : List UInt8 := leB 1 1 ++ putBr ⟨t, 0, 0⟩
def scrT (t : Nat) : ByteArray := ⟨(scrL t).toArray⟩
theorem scrL_len (t : Nat) : (scrL t).length = 9 := by simp [scrL, putBr, leB_length]
theorem scrT_size (t : Nat) : (scrT t).size = 9 := by rw [scrT, mk_size, scrL_len]
theorem lockPut_one (t : Nat) : lockPut [⟨t, 0, 0⟩] = (scrL t, 0) := by
  rw [lockPut_ok (by simp) (by simp [tooHigh])]
  simp [scrL]

theorem sl_brn (w : World) (tag : Nat) (ht : tag < 65536) : SlAt rpBr (w.alloc (.cells #[.int .u16 tag, .int .u16 0, .int .u32 0] 32)) (.slice (some ⟨w.heap.size, 0, none⟩) 1 1) [⟨tag, 0, 0⟩] := by
  refine ⟨_, 1, rfl, Nat.le_refl _, by decide, fun i x hi => ?_⟩
  have h0 : i = 0 := by have := (List.getElem?_eq_some_iff.1 hi).1; simpa using this
  subst h0
  obtain rfl : (⟨tag, 0, 0⟩ : PBr) = x := by simpa using hi
  refine ⟨_, 0, [.int .u16 tag, .int .u16 0, .int .u32 0], rfl, rfl, fun j u hj => ?_, rfl, ⟨ht, by show 0 < _; decide, by show 0 < _; decide⟩⟩
  rw [cell_at (heap_alloc_new w _)]
  simpa using hj
theorem lput_one (w : World) (tag : Nat) (ht : tag < 65536) : Calls Tryz.prog 27 #[.slice (some ⟨w.heap.size, 0, none⟩) 1 1] (w.alloc (.cells #[.int .u16 tag, .int .u16 0, .int .u32 0] 32)) fun e w' =>
    e = .returned (.tuple #[.string (scrT tag), .int .i64 0]) ∧ Below (w.alloc (.cells #[.int .u16 tag, .int .u16 0, .int .u32 0] 32)).heap.size (w.alloc (.cells #[.int .u16 tag, .int .u16 0, .int .u32 0] 32)) w' :=
  (lput_any _ [⟨tag, 0, 0⟩] _ (sl_brn w tag ht)).mono fun e w' ⟨h1, h2⟩ => ⟨by rw [h1, lockPut_one]; rfl, h2⟩
theorem scrL_bytes (t : Nat) : scrL t = [1, UInt8.ofNat (t % 256), UInt8.ofNat (t / 256), 0, 0, 0, 0, 0, 0] := by
  have h8 : UInt8.ofNat t = UInt8.ofNat (t % 256) := UInt8.toNat_inj.1 (by simp)
  simp [scrL, putBr, leB, ← h8]
theorem nine_bytes (w : World) (b c : Nat) (hb : b < 256) (hc : c < 256) : (convert 102 9 (.slice (some ⟨w.heap.size, 0, none⟩) 9 9)).run Tryz.prog (w.alloc (.cells #[.int .u8 1, .int .u8 b, .int .u8 c, .int .u8 0, .int .u8 0, .int .u8 0, .int .u8 0, .int .u8 0, .int .u8 0] 5)) =
    .ok (.string ⟨[1, UInt8.ofNat b, UInt8.ofNat c, 0, 0, 0, 0, 0, 0].toArray⟩) (w.alloc (.cells #[.int .u8 1, .int .u8 b, .int .u8 c, .int .u8 0, .int .u8 0, .int .u8 0, .int .u8 0, .int .u8 0, .int .u8 0] 5)) := by
  refine convert_bytes (base := 0) ⟨by simp [bytesOf], .inr ⟨w.heap.size, 9, _, rfl, Nat.zero_le _, heap_alloc_new w _, Nat.le_refl _, by decide, rfl, ?_⟩⟩
  have e : bytesOf [1, UInt8.ofNat b, UInt8.ofNat c, 0, 0, 0, 0, 0, 0] = [.int .u8 1, .int .u8 ((b : Int) % 256), .int .u8 ((c : Int) % 256), .int .u8 0, .int .u8 0, .int .u8 0, .int .u8 0, .int .u8 0, .int .u8 0] := by simp [bytesOf]
  rw [e, Int.emod_eq_of_lt (by omega) (by omega), Int.emod_eq_of_lt (by omega) (by omega)]
  rfl
set_option maxRecDepth 100000 in
set_option maxHeartbeats 1000000 in
theorem rscript_any (t : Nat) (ht : t < 65536) (w : World) : Calls Tryz.prog 26 #[.int .u16 t] w (fun e w' => e = .returned (.string (scrT t)) ∧ Below w.heap.size w w') := by
  have hcv := nine_bytes w (t % 256) (t / 256) (by omega) (by omega)
  have e1 : (t : Int).tmod 256 = ((t % 256 : Nat) : Int) := by rw [Int.tmod_eq_emod_of_nonneg (by omega)]; omega
  have e2 : (t : Int).tdiv 256 = ((t / 256 : Nat) : Int) := by rw [Int.tdiv_eq_ediv_of_nonneg (by omega)]; omega
  have hq : t / 256 < 256 := by omega
  have hr : t % 256 < 256 := by omega
  have HW := Lib.hid (show scrT t = ⟨[1, UInt8.ofNat (t % 256), UInt8.ofNat (t / 256), 0, 0, 0, 0, 0, 0].toArray⟩ by unfold scrT; rw [scrL_bytes])
  generalize t % 256 = r at *
  generalize t / 256 = q at *
  go_enter Tryz.func26, Tryz.ntmps26
  go_wp2
  go_ret
  rw [HW.out]
  exact ⟨rfl, (Below.refl _ _).alloc (Nat.le_refl _) _⟩
end Go.Proofs.YtmakghcoehkphaaGreat
end

section
/-
  The child of an anchor and a coin, as plain data. Conditions: none beyond each theorem's own.
-/
namespace Go.Proofs.YtmakghcoehkphaaGreat
open Go.RowKit Go.BigFrame
set_option linter.unusedVariables false
set_option linter.unusedSimpArgs false

/-- A claim as plain data. -/
structure PCl where
  id : ByteArray
  idx : Nat
  val : Int
  br : Int
  lock : PBr
  dead : Int
structure PCl.Ok (a : PCl) : Prop where
  id : a.id.size ≤ maxLen
  idx : a.idx < 4294967296
  val : -9223372036854775808 ≤ a.val ∧ a.val ≤ 9223372036854775807
  br : -9223372036854775808 ≤ a.br ∧ a.br ≤ 9223372036854775807
  lock : a.lock.Ok
  dead : -9223372036854775808 ≤ a.dead ∧ a.dead ≤ 9223372036854775807
def clV (a : PCl) : Value := .agg #[.string a.id, .int .u32 a.idx, .int .i64 a.val, .int .i64 a.br, .int .u16 a.lock.tag, .int .u16 a.lock.delay, .int .u32 a.lock.height, .int .i64 a.dead]

def seqOf (d : Nat) : Nat := if 0 < d then d else 4294967293
def childTx (a : PCl) (cid : ByteArray) (ci tag : Nat) (v : Int) : PTx :=
  ⟨2, [⟨a.id, a.idx, seqOf a.lock.delay, [signW a.br.toNat tag]⟩, ⟨cid, ci, 4294967293, [signW 0 tag]⟩], [⟨v, scrT tag⟩], 0⟩
def noTx : PTx := ⟨0, [], [], 0⟩

/-- The dust bound of a script's length. -/
def leastE (n : Nat) : Int × Int := if 40 < n then (0, 20) else (3 * n + 228, 0)
def isDust (x : POut) : Bool := decide (x.script.size ≤ 40) && decide (x.val < 3 * x.script.size + 228)
theorem child_dust (v : Int) (tag : Nat) : isDust ⟨v, scrT tag⟩ = decide (v < 255) := by
  unfold isDust
  dsimp only
  rw [scrT_size]
  simp

/-- Two values together. -/
def add2 (a b : Int) : Int × Int := if goodA a && goodA b && goodA (a + b) then (a + b, 0) else (0, 3)

/-- The child and the error. -/
noncomputable def childOf (a : PCl) (cid : ByteArray) (ci : Nat) (cv : Int) (tag : Nat) (fee : Int) : PTx × Int :=
  if tag = 0 ∨ a.br < 0 ∨ 2 < a.br ∨ 0 < a.lock.height then (noTx, 2)
  else if (add2 a.val cv).2 ≠ 0 ∨ goodA fee = false then (noTx, 3)
  else if a.val + cv < fee then (noTx, 12)
  else if a.val + cv - fee < 255 then (noTx, 13)
  else if checkOf (childTx a cid ci tag (a.val + cv - fee)) ≠ 0 then (noTx, checkOf (childTx a cid ci tag (a.val + cv - fee)))
  else (childTx a cid ci tag (a.val + cv - fee), 0)

/-! ### its size -/
theorem len1 (n : Nat) (h : n < 253) : (vintL n).length = 1 := by unfold vintL; rw [if_pos h, leB_length]
theorem child_wit (a : PCl) (cid : ByteArray) (ci tag : Nat) (v : Int) : witOf (childTx a cid ci tag v) = true := by simp [witOf, childTx]
theorem child_len {a : PCl} {cid : ByteArray} (ci tag : Nat) (v : Int) (h1 : a.id.size = 32) (h2 : cid.size = 32) (b : Bool) : (encL (childTx a cid ci tag v) b).length = if b then 122 else 110 := by
  unfold encL childTx
  have d1 : a.id.data.toList.length = 32 := by rw [data_len]; exact h1
  have d2 : cid.data.toList.length = 32 := by rw [data_len]; exact h2
  have d3 : (scrT tag).data.toList.length = 9 := by rw [data_len]; exact scrT_size tag
  have d4 : ∀ k, (signW k tag).data.toList.length = 3 := fun k => by rw [data_len]; exact signW_size k tag
  cases b
  · simp [markL, witsL, inB, outB, sizedL, leB_length, len1, d1, d2, d3, scrT_size]
  · simp [markL, witsL, witB, inB, outB, sizedL, leB_length, len1, d1, d2, d3, d4, scrT_size, signW_size]
theorem child_weigh {a : PCl} {cid : ByteArray} (ci tag : Nat) (v : Int) (h1 : a.id.size = 32) (h2 : cid.size = 32) : weigh (childTx a cid ci tag v) = 452 := by
  unfold weigh
  rw [child_wit, child_len ci tag v h1 h2, child_len ci tag v h1 h2]
  decide
theorem child_size {a : PCl} {cid : ByteArray} {ci tag : Nat} {v : Int} (h : checkOf (childTx a cid ci tag v) = 0) : sizeE (childTx a cid ci tag v) = 113 := by
  have he := enc_of (whole_of h)
  have h1 := (he.ids ⟨a.id, a.idx, seqOf a.lock.delay, [signW a.br.toNat tag]⟩ (by simp [childTx])).1
  have h2 := (he.ids ⟨cid, ci, 4294967293, [signW 0 tag]⟩ (by simp [childTx])).1
  unfold sizeE weightE
  rw [if_pos h, child_weigh ci tag v h1 h2]
  decide

/-! ### whether it may be -/
theorem child_check {a : PCl} {cid : ByteArray} {ci tag : Nat} {v : Int} (h1 : a.id.size = 32) (h2 : cid.size = 32) (hb1 : isBase a.id a.idx = false) (hb2 : isBase cid ci = false) (hne : (a.id, a.idx) ≠ (cid, ci)) (hv : goodA v = true) : checkOf (childTx a cid ci tag v) = 0 := by
  have c1 : countsOf (childTx a cid ci tag v) = true := by simp [countsOf, childTx]
  have c2 : longOf (childTx a cid ci tag v) = false := by simp [longOf, childTx, longIn, scrT_size, signW_size]
  have c3 : formedOf (childTx a cid ci tag v) = true := by simp [formedOf, childTx, formIn, h1, h2, hb1, hb2]
  have c4 : dup (ptsOf (childTx a cid ci tag v)) = false := dup_no (by simp only [ptsOf, childTx, List.map_cons, List.map_nil, List.nodup_cons, List.mem_singleton]; exact ⟨hne, by simp, List.nodup_nil⟩)
  rw [check_sum c1 c2 c3 c4]
  have : sumOf (childTx a cid ci tag v) = (v, 0) := by
    unfold sumOf childTx
    simp [sumA, hv]
  rw [this]

/-! ### its locks open -/
theorem signedOf_sign {n t : Nat} (hn : n < 3) (ht : t < 65536) : signedOf [signW n t] = some (n, t) := by
  have e : (signW n t).data.toList = [UInt8.ofNat n, UInt8.ofNat t, UInt8.ofNat (t / 256)] := by simp [signW, leB]
  rw [signedOf_three e]
  have h1 : (UInt8.ofNat n).toNat = n := by simp; omega
  have h2 : (UInt8.ofNat t).toNat + 256 * (UInt8.ofNat (t / 256)).toNat = t := by simp; omega
  rw [h1, h2, if_pos hn]
theorem open_child (s : ByteArray) {t : PTx} {k : Nat} {x : PIn} {l : List PBr} {n tag : Nat} {br : PBr} (hx : t.ins[k]? = some x) (hw : x.wit = [signW n tag]) (hn : n < 3) (ht : tag < 65536) (hl : lockGet s = some l) (hb : l[n]? = some br) (hbt : br.tag = tag) (hh : br.height = 0) (hd : br.delay ≤ waitsOf t k) : openOf s t k = 0 := by
  rw [openOf_at hx]
  have hc : chosenOf s x.wit = (br, true) := by
    unfold chosenOf
    rw [hl, hw, signedOf_sign hn ht]
    dsimp only
    rw [hb]
    simp [hbt]
  unfold openAt
  rw [hc]
  dsimp only
  rw [if_neg (by decide), if_neg (by omega), if_neg (by omega)]
end Go.Proofs.YtmakghcoehkphaaGreat
end

section
/-
  Claims together, as plain data: their transaction, whether it may be, its size. Conditions: those named in each theorem.
-/
namespace Go.Proofs.YtmakghcoehkphaaGreat
open Go.RowKit
set_option linter.unusedVariables false
set_option linter.unusedSimpArgs false
def insOf (tag : Nat) (l : List PCl) : List PIn := l.map fun a => ⟨a.id, a.idx, seqOf a.lock.delay, [signW a.br.toNat tag]⟩
def highOf (l : List PCl) : Nat := l.foldl (fun h a => max h a.lock.height) 0
def claimTx (l : List PCl) (cid : ByteArray) (ci tag : Nat) (v : Int) : PTx := ⟨2, insOf tag l ++ [⟨cid, ci, 4294967293, [signW 0 tag]⟩], [⟨v, scrT tag⟩], highOf l⟩
theorem high_snoc (l : List PCl) (a : PCl) : highOf (l ++ [a]) = max (highOf l) a.lock.height := by simp [highOf]
theorem high_le (l : List PCl) (m : Nat) (h : ∀ a ∈ l, a.lock.height ≤ m) : highOf l ≤ m := by
  have : ∀ (l : List PCl) (k : Nat), k ≤ m → (∀ a ∈ l, a.lock.height ≤ m) → l.foldl (fun h a => max h a.lock.height) k ≤ m := by
    intro l
    induction l with
    | nil => intro k hk _; exact hk
    | cons a l ih => intro k hk h; exact ih _ (Nat.max_le.2 ⟨hk, h a (by simp)⟩) (fun b hb => h b (by simp [hb]))
  exact this l 0 (Nat.zero_le _) h
theorem insOf_snoc (tag : Nat) (l : List PCl) (a : PCl) : insOf tag (l ++ [a]) = insOf tag l ++ [⟨a.id, a.idx, seqOf a.lock.delay, [signW a.br.toNat tag]⟩] := by simp [insOf]
theorem insOf_len (tag : Nat) (l : List PCl) : (insOf tag l).length = l.length := by simp [insOf]
/-- May a claim's branch and lock be? -/
def namedC (a : PCl) : Bool := (decide (0 ≤ a.br) && decide (a.br ≤ 2)) && decide (a.lock.height ≤ 1000000)
/-- The transaction and the error. -/
noncomputable def claimsOf (l : List PCl) (cid : ByteArray) (ci : Nat) (cv : Int) (tag : Nat) (fee : Int) : PTx × Int :=
  if l.length < 1 ∨ 32 < l.length then (noTx, 6)
  else if tag = 0 ∨ l.any (fun a => !namedC a) = true then (noTx, 2)
  else if (sumA 0 (cv :: l.map (·.val))).2 ≠ 0 ∨ goodA fee = false then (noTx, 3)
  else if (sumA 0 (cv :: l.map (·.val))).1 < fee then (noTx, 12)
  else if (sumA 0 (cv :: l.map (·.val))).1 - fee < 255 then (noTx, 13)
  else if checkOf (claimTx l cid ci tag ((sumA 0 (cv :: l.map (·.val))).1 - fee)) ≠ 0 then (noTx, checkOf (claimTx l cid ci tag ((sumA 0 (cv :: l.map (·.val))).1 - fee)))
  else (claimTx l cid ci tag ((sumA 0 (cv :: l.map (·.val))).1 - fee), 0)

/-! ### its size -/
theorem flat_lenK {α : Type} (f : α → List UInt8) (k : Nat) : ∀ l : List α, (∀ x ∈ l, (f x).length = k) → (l.flatMap f).length = k * l.length
  | [], _ => by simp
  | a :: l, h => by
    rw [List.flatMap_cons, List.length_append, h a (by simp), flat_lenK f k l fun x hx => h x (by simp [hx]), List.length_cons, Nat.mul_succ]
    omega
theorem claim_in {l : List PCl} {cid : ByteArray} {ci tag : Nat} {v : Int} {x : PIn} (hx : x ∈ (claimTx l cid ci tag v).ins) : ∃ k, x.wit = [signW k tag] := by
  unfold claimTx insOf at hx
  rcases List.mem_append.1 hx with h | h
  · obtain ⟨a, -, rfl⟩ := List.mem_map.1 h
    exact ⟨_, rfl⟩
  · rw [List.mem_singleton.1 h]
    exact ⟨_, rfl⟩
theorem claim_wit (l : List PCl) (cid : ByteArray) (ci tag : Nat) (v : Int) : witOf (claimTx l cid ci tag v) = true := by simp [witOf, claimTx]
theorem claim_ins_len (l : List PCl) (cid : ByteArray) (ci tag : Nat) (v : Int) : (claimTx l cid ci tag v).ins.length = l.length + 1 := by simp [claimTx, insOf]
theorem claim_len {l : List PCl} {cid : ByteArray} (ci tag : Nat) (v : Int) (hn : l.length ≤ 32) (h1 : ∀ x ∈ (claimTx l cid ci tag v).ins, x.id.size = 32) (b : Bool) :
    (encL (claimTx l cid ci tag v) b).length = if b then 76 + 46 * l.length else 69 + 41 * l.length := by
  have hlen := claim_ins_len l cid ci tag v
  have e1 : ((claimTx l cid ci tag v).ins.flatMap inB).length = 41 * (l.length + 1) := by
    rw [flat_lenK inB 41 _ fun x hx => by simp [inB, leB_length, len1, data_len, h1 x hx], hlen]
  have e2 : ((claimTx l cid ci tag v).ins.flatMap witB).length = 5 * (l.length + 1) := by
    rw [flat_lenK witB 5 _ fun x hx => by
      obtain ⟨k, hk⟩ := claim_in hx
      simp [witB, hk, sizedL, leB_length, len1, data_len, signW_size], hlen]
  have d3 : (scrT tag).data.toList.length = 9 := by rw [data_len]; exact scrT_size tag
  unfold encL witsL
  simp only [List.length_append, leB_length, hlen, e1, len1 (l.length + 1) (by omega)]
  cases b
  · simp [markL, claimTx, outB, sizedL, leB_length, len1, d3, scrT_size]
    omega
  · simp only [if_true, e2]
    simp [markL, claimTx, outB, sizedL, leB_length, len1, d3, scrT_size]
    omega
theorem claim_weigh {l : List PCl} {cid : ByteArray} (ci tag : Nat) (v : Int) (hn : l.length ≤ 32) (h1 : ∀ x ∈ (claimTx l cid ci tag v).ins, x.id.size = 32) : weigh (claimTx l cid ci tag v) = 283 + 169 * l.length := by
  unfold weigh
  rw [claim_wit, claim_len ci tag v hn h1, claim_len ci tag v hn h1]
  simp
  omega
def sizeN (n : Nat) : Int := (286 + 169 * (n : Int)) / 4
theorem claim_size {l : List PCl} {cid : ByteArray} {ci tag : Nat} {v : Int} (hn : l.length ≤ 32) (h : checkOf (claimTx l cid ci tag v) = 0) : sizeE (claimTx l cid ci tag v) = sizeN l.length := by
  have he := enc_of (whole_of h)
  unfold sizeE weightE sizeN
  rw [if_pos h, claim_weigh ci tag v hn fun x hx => (he.ids x hx).1]
  congr 1
  omega

/-! ### whether it may be -/
theorem claim_check {l : List PCl} {cid : ByteArray} {ci tag : Nat} {v : Int} (hn : l.length ≤ 32) (h1 : ∀ x ∈ (claimTx l cid ci tag v).ins, x.id.size = 32 ∧ isBase x.id x.idx = false) (hd : (ptsOf (claimTx l cid ci tag v)).Nodup) (hv : goodA v = true) :
    checkOf (claimTx l cid ci tag v) = 0 := by
  have hlen := claim_ins_len l cid ci tag v
  have c1 : countsOf (claimTx l cid ci tag v) = true := by
    unfold countsOf
    rw [hlen, decide_eq_true (by omega), decide_eq_true (by omega)]
    have : ((claimTx l cid ci tag v).ins.any fun x => decide (4 < x.wit.length)) = false := by
      rw [List.any_eq_false]
      intro x hx
      obtain ⟨k, hk⟩ := claim_in hx
      simp [hk]
    rw [this]
    simp [claimTx]
  have c2 : longOf (claimTx l cid ci tag v) = false := by
    unfold longOf
    have : ((claimTx l cid ci tag v).ins.any longIn) = false := by
      rw [List.any_eq_false]
      intro x hx
      obtain ⟨k, hk⟩ := claim_in hx
      simp [longIn, hk, signW_size]
    rw [this]
    simp [claimTx, scrT_size]
  have c3 : formedOf (claimTx l cid ci tag v) = true := by
    unfold formedOf
    rw [List.all_eq_true]
    intro x hx
    obtain ⟨g1, g2⟩ := h1 x hx
    simp [formIn, g1, g2]
  rw [check_sum c1 c2 c3 (dup_no hd)]
  unfold sumOf claimTx
  simp [sumA, hv]
end Go.Proofs.YtmakghcoehkphaaGreat
end

section
/-
  Claims in memory: rows of them, rows of the call's own. Conditions: none beyond each theorem's own.
-/
namespace Go.Proofs.YtmakghcoehkphaaGreat
open Go.RowKit Go.BigFrame
set_option linter.unusedVariables false
set_option linter.unusedSimpArgs false

def clRow (a : PCl) : List Value := [.string a.id, .int .u32 a.idx, .int .i64 a.val, .int .i64 a.br, .int .u16 a.lock.tag, .int .u16 a.lock.delay, .int .u32 a.lock.height, .int .i64 a.dead]
def clsCells (l : List PCl) : List Value := l.flatMap clRow
theorem clRow_len (x : PCl) : (clRow x).length = 8 := rfl
theorem clsCells_len (l : List PCl) : (clsCells l).length = l.length * 8 := flat_len clRow 8 clRow_len l
theorem clsCells_snoc (l : List PCl) (a : PCl) : clsCells (l ++ [a]) = clsCells l ++ clRow a := by simp [clsCells]
def rpCl : Rp PCl := ⟨8, fun _ cs x => cs = clRow x ∧ x.Ok, fun _ h => h⟩
/-- A claim at these cells. -/
structure ClAt (w : World) (b o : Nat) (x : PCl) : Prop where
  c0 : w.cell? ⟨b, o, none⟩ = some (.string x.id)
  c1 : w.cell? ⟨b, o + 1, none⟩ = some (.int .u32 x.idx)
  c2 : w.cell? ⟨b, o + 2, none⟩ = some (.int .i64 x.val)
  c3 : w.cell? ⟨b, o + 3, none⟩ = some (.int .i64 x.br)
  c4 : w.cell? ⟨b, o + 4, none⟩ = some (.int .u16 x.lock.tag)
  c5 : w.cell? ⟨b, o + 5, none⟩ = some (.int .u16 x.lock.delay)
  c6 : w.cell? ⟨b, o + 6, none⟩ = some (.int .u32 x.lock.height)
  c7 : w.cell? ⟨b, o + 7, none⟩ = some (.int .i64 x.dead)
theorem SlAt.cl {w : World} {a : Option Addr} {n c i : Nat} {xs : List PCl} (h : SlAt rpCl w (.slice a n c) xs) (hi : i < n) : ∃ (b o : Nat) (x : PCl), a = some ⟨b, o, none⟩ ∧ xs[i]? = some x ∧ x.Ok ∧ ClAt w b (o + i * 8) x := by
  obtain ⟨b, o, x, cs, h1, h2, h3, h4, h5, h6⟩ := h.at hi
  subst h5
  exact ⟨b, o, x, h1, h2, h6, h4 0 _ rfl, h4 1 _ rfl, h4 2 _ rfl, h4 3 _ rfl, h4 4 _ rfl, h4 5 _ rfl, h4 6 _ rfl, h4 7 _ rfl⟩
theorem ClAt.below {w w' : World} {b o : Nat} {x : PCl} (h : ClAt w b o x) (hb : Below w.heap.size w w') : ClAt w' b o x :=
  ⟨below_cells hb _ _ h.c0, below_cells hb _ _ h.c1, below_cells hb _ _ h.c2, below_cells hb _ _ h.c3, below_cells hb _ _ h.c4, below_cells hb _ _ h.c5, below_cells hb _ _ h.c6, below_cells hb _ _ h.c7⟩
structure ClsOwn (base : Nat) (w : World) (v : Value) (l : List PCl) : Prop where
  row : w.ownsRow base 34 8 v l.length (clsCells l)
  ok : ∀ x ∈ l, x.Ok
theorem ClsOwn.sl {base : Nat} {w : World} {v : Value} {l : List PCl} (h : ClsOwn base w v l) : SlAt rpCl w v l := by
  obtain ⟨a, c, e, h1, h2⟩ := ownsRow_shape h.row
  subst e
  refine ⟨a, c, rfl, h1, h2, fun i x hi => ?_⟩
  have hil : i < l.length := (List.getElem?_eq_some_iff.1 hi).1
  obtain ⟨b, rfl, hb, hb2⟩ := ownsRow_some h.row (by omega)
  refine ⟨b, 0, clRow x, rfl, rfl, fun j u hj => ?_, rfl, h.ok x (List.mem_of_getElem? hi)⟩
  have hj8 : j < 8 := (List.getElem?_eq_some_iff.1 hj).1
  have := h.row.cells (g := b) rfl (i * 8 + j) u (by rw [show clsCells l = l.flatMap clRow from rfl, flat_at clRow 8 clRow_len l i x hi j hj8]; exact hj)
  rw [Addr.add_lit] at this
  simpa [rpCl] using this
theorem ClsOwn.below {base : Nat} {w w' : World} {v : Value} {l : List PCl} (h : ClsOwn base w v l) (hb : Below w.heap.size w w') : ClsOwn base w' v l := ⟨ownsRow_below h.row hb, h.ok⟩
theorem ClsOwn.kept {base : Nat} {w w' : World} {v : Value} {l : List PCl} (h : ClsOwn base w v l) (hk : ∀ b, v.ownBlock = some b → w'.heap[b]? = w.heap[b]?) : ClsOwn base w' v l := ⟨ownsRow_of_block h.row hk, h.ok⟩
theorem ClsOwn.base {base base' : Nat} {w : World} {v : Value} {l : List PCl} (h : ClsOwn base w v l) (hb : base' ≤ base) : ClsOwn base' w v l := ⟨ownsRow_base h.row hb, h.ok⟩
theorem clsOwn_nil (base : Nat) (w : World) : ClsOwn base w (.slice none 0 0) [] := ⟨World.ownsRow_nil _ _ _ _, fun x hx => by simp at hx⟩
theorem info_cl : (Tryz.prog.info? 34).map (fun i => (i.zero, i.size, i.bytes)) = some (some (.agg #[.string ByteArray.empty, .int .u32 0, .int .i64 0, .int .i64 0, .int .u16 0, .int .u16 0, .int .u32 0, .int .i64 0]), 8, 56) := by kernel_rfl
/-- One of a claim's own cells is written. -/
theorem ClsOwn.set {base : Nat} {w : World} {b n c : Nat} {l : List PCl} (h : ClsOwn base w (.slice (some ⟨b, 0, none⟩) n c) l) {i : Nat} {x x' : PCl} (hi : l[i]? = some x) (j : Nat) (u : Value) (hj : j < 8) (hs : (clRow x).set j u = clRow x') (hok : x'.Ok) :
    ClsOwn base (w.setCell ⟨b, i * 8 + j, none⟩ u) (.slice (some ⟨b, 0, none⟩) n c) (l.set i x') := by
  obtain ⟨a', c', e, -, -⟩ := ownsRow_shape h.row
  obtain ⟨-, rfl, rfl⟩ : some (⟨b, 0, none⟩ : Addr) = a' ∧ n = l.length ∧ c = c' := by simpa using e
  have hil : i < l.length := (List.getElem?_eq_some_iff.1 hi).1
  refine ⟨?_, fun y hy => ?_⟩
  · rw [List.length_set]
    have hx : clsCells (l.set i x') = (clsCells l).set (i * 8 + j) u := (flat_set clRow 8 clRow_len l i x x' hi j u hj hs).symm
    rw [hx]
    exact ownsRow_set h.row (by rw [clsCells_len]; omega) u
  · rcases List.mem_or_eq_of_mem_set hy with h1 | rfl
    · exact h.ok y h1
    · exact hok
/-- One claim more. -/
theorem ClsOwn.snoc {base : Nat} {w w' : World} {v' : Value} {l : List PCl} {x : PCl} (hok : ∀ y ∈ l, y.Ok) (hx : x.Ok) (hrow : w'.ownsRow base 34 8 v' (l.length + 1) (clsCells l ++ clRow x)) : ClsOwn base w' v' (l ++ [x]) :=
  ⟨by rw [clsCells_snoc, List.length_append]; exact hrow, fun y hy => by
    rcases List.mem_append.1 hy with h | h
    · exact hok y h
    · obtain rfl := List.mem_singleton.1 h
      exact hx⟩
end Go.Proofs.YtmakghcoehkphaaGreat
end

section
/-
  A region that draws its order, by what is known of each operation's value and of the world behind each set of operations. Conditions: those named in wp_region_vals.
-/
namespace Go.Proofs.YtmakghcoehkphaaGreat
open Go.RowKit Go.BigFrame
set_option linter.unusedVariables false

/-- Where just the operations of L have been run: the values. -/
structure Vals (R : Nat → List Value → Value → Prop) (l : List Oper) (L : Nat → Prop) (xs : List Value) : Prop where
  len : xs.length = l.length
  closed : ∀ j, L j → ∀ d, (deps l j).contains d = true → L d
  lt : ∀ j, L j → j < l.length
  rel : ∀ j, L j → R j ((deps l j).map fun d => xs.getD d undef) (xs.getD j undef)
section
variable {P : Program} {R : Nat → List Value → Value → Prop} {l : List Oper} {L : Nat → Prop} {xs : List Value}
theorem Vals.step (h : Vals R l L xs) {i : Nat} (hin : i < l.length) (hni : ¬ L i) (hpre : ∀ d, (deps l i).contains d = true → L d) {v : Value} (hr : R i ((deps l i).map fun d => xs.getD d undef) v) :
    Vals R l (fun j => j = i ∨ L j) (xs.set i v) := by
  have hget : ∀ j, L j → (xs.set i v).getD j undef = xs.getD j undef := by
    intro j hj
    have hne : i ≠ j := fun e => hni (e ▸ hj)
    simp [List.getD, List.getElem?_set_ne hne]
  have hself : (xs.set i v).getD i undef = v := by
    have : i < xs.length := by rw [h.len]; exact hin
    simp [List.getD, this]
  have hmap : ∀ j, (j = i ∨ L j) → ((deps l j).map fun d => (xs.set i v).getD d undef) = (deps l j).map fun d => xs.getD d undef := by
    intro j hj
    refine List.map_congr_left fun d hd => hget d ?_
    have hc : (deps l j).contains d = true := by simpa using hd
    rcases hj with rfl | hj
    · exact hpre d hc
    · exact h.closed j hj d hc
  refine ⟨by rw [List.length_set]; exact h.len, ?_, ?_, ?_⟩
  · rintro j (rfl | hj) d hd
    · exact .inr (hpre d hd)
    · exact .inr (h.closed j hj d hd)
  · rintro j (rfl | hj)
    · exact hin
    · exact h.lt j hj
  · rintro j (rfl | hj)
    · rw [hself, hmap j (.inl rfl)]
      exact hr
    · rw [hget j hj, hmap j (.inr hj)]
      exact h.rel j hj

theorem wp_region_vals (R : Nat → List Value → Value → Prop) (W : (Nat → Prop) → World → Prop) {id : Nat} {Q : Exit → Act → World → Prop} {a0 : Act} {w0 : World} (hm : P.follows .mixedOrders = true) (hb : backB .any l.toArray = true)
    (hg : (l.all fun o => o.guard.isNone) = true) (hd : dstB l = true)
    (h0 : W (fun _ => False) w0.drew)
    (hstep : ∀ i o, i < l.length → l[i]? = some o → ∀ (L : Nat → Prop) (xs : List Value) (w : World), Vals R l L xs → W L w → ¬ L i → (∀ d, (deps l i).contains d = true → L d) →
      o.wp P (putAll a0 l xs) w (fun a' w' => ∃ v, a' = (putAll a0 l xs).put o.dst v ∧ R i ((deps l i).map fun d => xs.getD d undef) v ∧ W (fun j => j = i ∨ L j) w') (fun _ _ _ => False))
    (hend : ∀ (xs : List Value) (w : World), Vals R l (fun j => j < l.length) xs → W (fun j => j < l.length) w → Q .normal (putAll a0 l xs) w) :
    (Code.region id l.toArray true).wp P Q a0 w0 := by
  refine wp_region_inv2 (fun L a w => ∃ xs, a = putAll a0 l xs ∧ Vals R l L xs ∧ W L w) hm hb ?_ ?_ ?_
  · refine ⟨(ownVals a0 l).take l.length, (putAll_own l a0 _).symm, ⟨by simp [ownVals], fun _ h => h.elim, fun _ h => h.elim, fun _ h => h.elim⟩, h0⟩
  · rintro L i a w hil hni hpre ⟨xs, rfl, hv, hw⟩
    obtain ⟨o, ho⟩ : ∃ o, l[i]? = some o := ⟨_, List.getElem?_eq_getElem hil⟩
    have hoa : l.toArray[i]? = some o := by simpa using ho
    have hgo : o.guard = none := by
      have := List.all_eq_true.1 hg o (List.mem_of_getElem? ho)
      simpa using this
    unfold wpOp
    rw [hoa]
    simp only [Region.wanted, hgo, if_true]
    refine .inl (wp_weaken ?_ (fun _ _ _ h => h.elim) (fun ⟨_, _, h⟩ => h.elim) (hstep i o hil ho L xs w hv hw hni hpre))
    rintro a' w' ⟨v, rfl, hr, hw'⟩
    rw [putAll_put l xs a0 i o v hd ho (by rw [hv.len]; exact hil)]
    exact ⟨_, rfl, hv.step hil hni hpre hr, hw'⟩
  · rintro L a w hall ⟨xs, rfl, hv, hw⟩
    have he : L = fun j => j < l.length := by
      funext j
      exact propext ⟨hv.lt j, hall j⟩
    subst he
    exact hend xs w hv hw
/-- One operation whose run is known. -/
theorem vstep_run {R : Nat → List Value → Value → Prop} {W : (Nat → Prop) → World → Prop} {L : Nat → Prop} {o : Oper} {a : Act} {w w' : World} {i : Nat} (v : Value) (hrun : (execOp a.eval o).run P w = .ok (.value v) w')
    (hr : R i ((deps l i).map fun d => xs.getD d undef) v) (hw : W (fun j => j = i ∨ L j) w') :
    o.wp P a w (fun a' w' => ∃ v, a' = a.put o.dst v ∧ R i ((deps l i).map fun d => xs.getD d undef) v ∧ W (fun j => j = i ∨ L j) w') (fun _ _ _ => False) :=
  opv_run hrun ⟨v, rfl, hr, hw⟩
/-- One that stores. -/
theorem vstep_skip {R : Nat → List Value → Value → Prop} {W : (Nat → Prop) → World → Prop} {L : Nat → Prop} {o : Oper} {a : Act} {w w' : World} {i : Nat} (hrun : (execOp a.eval o).run P w = .ok .skip w')
    (hr : R i ((deps l i).map fun d => xs.getD d undef) undef) (hw : W (fun j => j = i ∨ L j) w') :
    o.wp P a w (fun a' w' => ∃ v, a' = a.put o.dst v ∧ R i ((deps l i).map fun d => xs.getD d undef) v ∧ W (fun j => j = i ∨ L j) w') (fun _ _ _ => False) :=
  op_skip hrun ⟨undef, rfl, hr, hw⟩
end
end Go.Proofs.YtmakghcoehkphaaGreat
end
