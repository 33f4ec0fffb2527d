/-
  ChildBuilds, part 3: the texts Cd, Ce, Cf, one after another. Conditions: none beyond those named at each.
-/
import Derived.Test.YtmakghcoehkphaaQ2ChildBuilds
import Derived.Test.YtmakghcoehkphaaReg
import Derived.Test.YtmakghcoehkphaaLock8
import Derived.Test.YtmakghcoehkphaaTxC
section
/-
  What a child is made of, both ways. Conditions: the claim's numbers are ones of their kinds, its branch may be.
-/
namespace Go.Proofs.Ytmakghcoehkphaa
open Go.RowKit Go.BigFrame
set_option linter.unusedVariables false
set_option linter.unusedSimpArgs false

/-! ### the script -/
theorem sl_brn (w : World) (tag : Nat) (ht : tag < 65536) : SlAt rpBr (w.alloc (.cells #[.int .u16 tag, .int .u16 0, .int .u32 0] 27)) (.slice (some ⟨w.heap.size, 0, none⟩) 1 1) [⟨tag, 0, 0⟩] := by
  refine ⟨_, 1, rfl, Nat.le_refl _, by decide, fun i x hi => ?_⟩
  have h0 : i = 0 := by have := (List.getElem?_eq_some_iff.1 hi).1; simpa using this
  subst h0
  obtain rfl : (⟨tag, 0, 0⟩ : PBr) = x := by simpa using hi
  refine ⟨_, 0, [.int .u16 tag, .int .u16 0, .int .u32 0], rfl, rfl, fun j u hj => ?_, rfl, ⟨ht, by show 0 < _; decide, by show 0 < _; decide⟩⟩
  rw [cell_at (heap_alloc_new w _)]
  simpa using hj
theorem lput_one (w : World) (tag : Nat) (ht : tag < 65536) : Calls Try.prog 19 #[.slice (some ⟨w.heap.size, 0, none⟩) 1 1] (w.alloc (.cells #[.int .u16 tag, .int .u16 0, .int .u32 0] 27)) fun e w' =>
    e = .returned (.tuple #[.string (scrT tag), .int .i64 0]) ∧ Below (w.alloc (.cells #[.int .u16 tag, .int .u16 0, .int .u32 0] 27)).heap.size (w.alloc (.cells #[.int .u16 tag, .int .u16 0, .int .u32 0] 27)) w' :=
  (lput_any _ [⟨tag, 0, 0⟩] _ (sl_brn w tag ht)).mono fun e w' ⟨h1, h2⟩ => ⟨by rw [h1, lockPut_one]; rfl, h2⟩
theorem scrL_bytes (t : Nat) : scrL t = [1, UInt8.ofNat (t % 256), UInt8.ofNat (t / 256), 0, 0, 0, 0, 0, 0] := by
  have h8 : UInt8.ofNat t = UInt8.ofNat (t % 256) := UInt8.toNat_inj.1 (by simp)
  simp [scrL, putBr, leB, ← h8]
theorem nine_bytes (w : World) (b c : Nat) (hb : b < 256) (hc : c < 256) : (convert 92 9 (.slice (some ⟨w.heap.size, 0, none⟩) 9 9)).run Try.prog (w.alloc (.cells #[.int .u8 1, .int .u8 b, .int .u8 c, .int .u8 0, .int .u8 0, .int .u8 0, .int .u8 0, .int .u8 0, .int .u8 0] 5)) =
    .ok (.string ⟨[1, UInt8.ofNat b, UInt8.ofNat c, 0, 0, 0, 0, 0, 0].toArray⟩) (w.alloc (.cells #[.int .u8 1, .int .u8 b, .int .u8 c, .int .u8 0, .int .u8 0, .int .u8 0, .int .u8 0, .int .u8 0, .int .u8 0] 5)) := by
  refine convert_bytes (base := 0) ⟨by simp [bytesOf], .inr ⟨w.heap.size, 9, _, rfl, Nat.zero_le _, heap_alloc_new w _, Nat.le_refl _, by decide, rfl, ?_⟩⟩
  have e : bytesOf [1, UInt8.ofNat b, UInt8.ofNat c, 0, 0, 0, 0, 0, 0] = [.int .u8 1, .int .u8 ((b : Int) % 256), .int .u8 ((c : Int) % 256), .int .u8 0, .int .u8 0, .int .u8 0, .int .u8 0, .int .u8 0, .int .u8 0] := by simp [bytesOf]
  rw [e, Int.emod_eq_of_lt (by omega) (by omega), Int.emod_eq_of_lt (by omega) (by omega)]
  rfl
set_option maxRecDepth 100000 in
set_option maxHeartbeats 1000000 in
theorem rscript_any (t : Nat) (ht : t < 65536) (w : World) : Calls Try.prog 17 #[.int .u16 t] w (fun e w' => e = .returned (.string (scrT t)) ∧ Below w.heap.size w w') := by
  have hcv := nine_bytes w (t % 256) (t / 256) (by omega) (by omega)
  have e1 : (t : Int).tmod 256 = ((t % 256 : Nat) : Int) := by rw [Int.tmod_eq_emod_of_nonneg (by omega)]; omega
  have e2 : (t : Int).tdiv 256 = ((t / 256 : Nat) : Int) := by rw [Int.tdiv_eq_ediv_of_nonneg (by omega)]; omega
  have hq : t / 256 < 256 := by omega
  have hr : t % 256 < 256 := by omega
  have HW := Lib.hid (show scrT t = ⟨[1, UInt8.ofNat (t % 256), UInt8.ofNat (t / 256), 0, 0, 0, 0, 0, 0].toArray⟩ by unfold scrT; rw [scrL_bytes]; rfl)
  generalize t % 256 = r at *
  generalize t / 256 = q at *
  go_enter Try.func17, Try.ntmps17
  go_wp2
  go_ret
  rw [HW.out]
  exact ⟨rfl, (Below.refl _ _).alloc (Nat.le_refl _) _⟩
set_option maxRecDepth 100000 in
set_option maxHeartbeats 1000000 in
theorem paid_any (tag : Nat) (v : Int) (ht : tag < 65536) (w : World) : Calls Try.prog 48 #[.int .u16 tag, .int .i64 v] w (fun e w' => e = .returned (.agg #[.int .i64 v, .string (scrT tag)]) ∧ Below w.heap.size w w') := by
  go_enter Try.func48, Try.ntmps48
  go_upto_region 1 with fail
  have hz := heap_alloc_new w (.cells #[.int .i64 0, .string ⟨#[]⟩] 37)
  have hal : Below w.heap.size w (w.alloc (.cells #[.int .i64 0, .string ⟨#[]⟩] 37)) := (Below.refl _ _).alloc (Nat.le_refl _) _
  obtain ⟨X, hX⟩ : ∃ q, q = w.heap.size := ⟨_, rfl⟩
  rw [← hX] at hz ⊢
  generalize w.alloc (.cells #[.int .i64 0, .string ⟨#[]⟩] 37) = w0 at *
  have HAL := Lib.hid hal
  have hX2 : X < w0.heap.size := (Array.getElem?_eq_some_iff.1 hz).1
  have hXw : w.heap.size ≤ X := by omega
  clear hal
  go_wp2_with fail
  refine (lput_one w0 tag ht).mono ?_
  rintro e w1 ⟨rfl, hb⟩
  have hb1 := below_box hb
  have hz1 : w1.heap[X]? = _ := (hb1.block X hX2).trans hz
  have r0 : w1.cell? ⟨X, 0, none⟩ = some (.int .i64 0) := cell_at hz1
  have r1 : w1.cell? ⟨X, 1, none⟩ = some (.string ⟨#[]⟩) := cell_at hz1
  have f0 : w1.frozen? ⟨X, 0, none⟩ = false := free_at hz1
  have f1 : w1.frozen? ⟨X, 1, none⟩ = false := free_at hz1
  have HB := Lib.hid (HAL.out.trans (hb1.mono HAL.out.size))
  clear hb hb1 hz hz1 hX HAL
  go_wp2_with fail
  exact bodyPost_ret (v := .agg #[.int .i64 v, .string (scrT tag)]) (by simp [results, Try.results48, go_sem, r0, r1]) rfl ⟨rfl, (HB.out.setCell hXw _).setCell hXw _⟩

/-! ### the transaction -/
theorem seq_any (tg dl hg : Nat) (w : World) (hd : dl < 65536) : Calls Try.prog 47 #[.agg #[.int .u16 tg, .int .u16 dl, .int .u32 hg]] w fun e w' => e = .returned (.int .u32 (seqOf dl)) ∧ Below w.heap.size w w' :=
  (sequence_any tg dl hg w hd).mono fun e w' ⟨h1, h2⟩ => ⟨by rw [h1]; unfold seqOf; split <;> rfl, h2⟩
theorem seqOf_lt {d : Nat} (h : d < 65536) : seqOf d < 4294967296 := by unfold seqOf; split <;> omega

/-- A row of one text. -/
theorem sl_box {w : World} {b : Nat} {s : ByteArray} {t : TypeId} (h : w.heap[b]? = some (.cells #[.string s] t (0, 0))) (hs : s.size ≤ maxLen) : SlAt rpStr w (.slice (some ⟨b, 0, none⟩) 1 1) [s] := by
  refine ⟨_, 1, rfl, Nat.le_refl _, by decide, fun i x hi => ?_⟩
  match i, hi with
  | 0, hi =>
    obtain rfl := Option.some.inj hi
    refine ⟨b, 0, [.string s], rfl, rfl, fun j u hj => ?_, rfl, hs⟩
    rw [cell_at h]
    match j, hj with
    | 0, hj => exact hj
def NewStr (w : World) (s : ByteArray) (v : Value) (w' : World) : Prop := ∃ b, v = .slice (some ⟨b, 0, none⟩) 1 1 ∧ w.heap.size ≤ b ∧ w'.heap[b]? = some (.cells #[.string s] 9 (0, 0)) ∧ Below w.heap.size w w'
set_option maxRecDepth 100000 in
set_option maxHeartbeats 1000000 in
theorem sign_new (n t : Nat) (h : n < 3) (ht : t < 65536) (w : World) : Calls Try.prog 22 #[.int .i64 n, .int .u16 t] w fun e w' => ∃ v, e = .returned (.tuple #[v, .int .i64 0]) ∧ NewStr w (signW n t) v w' := by
  go_enter Try.func22, Try.ntmps22
  go_wp2_with fail
  refine (put1_any n (by omega) _).mono ?_
  rintro e w1 ⟨rfl, hb1⟩
  have HB1 := Lib.hid hb1
  clear hb1
  go_wp2_with fail
  refine (put2_any t (by omega) _).mono ?_
  rintro e w2 ⟨rfl, hb2⟩
  have HB2 := Lib.hid hb2
  clear hb2
  go_wp2
  go_ret2
  have h12 := HB1.out.trans (HB2.out.mono HB1.out.size)
  exact ⟨_, rfl, _, rfl, h12.size, heap_alloc_new w2 _, h12.alloc h12.size _⟩
set_option maxRecDepth 100000 in
set_option maxHeartbeats 1000000 in
theorem rsign_new (n t : Nat) (h : n < 3) (ht : t < 65536) (w : World) : Calls Try.prog 30 #[.int .i64 n, .int .u16 t] w fun e w' => ∃ v, e = .returned v ∧ NewStr w (signW n t) v w' := by
  have hcv := three_bytes w n (t % 256) (t / 256) (by omega) (by omega) (by omega)
  have e1 : (t : Int).tmod 256 = ((t % 256 : Nat) : Int) := by rw [Int.tmod_eq_emod_of_nonneg (by omega)]; omega
  have e2 : (t : Int).tdiv 256 = ((t / 256 : Nat) : Int) := by rw [Int.tdiv_eq_ediv_of_nonneg (by omega)]; omega
  have hq : t / 256 < 256 := by omega
  have hr : t % 256 < 256 := by omega
  have hw : signW n t = ⟨[UInt8.ofNat n, UInt8.ofNat (t % 256), UInt8.ofNat (t / 256)].toArray⟩ := by
    unfold signW
    congr 2
    have h8 : UInt8.ofNat t = UInt8.ofNat (t % 256) := UInt8.toNat_inj.1 (by simp)
    simp [leB, ← h8]
  have HW := Lib.hid hw
  clear hw
  generalize t % 256 = r at *
  generalize t / 256 = q at *
  go_enter Try.func30, Try.ntmps30
  go_wp2
  go_ret
  have hz := heap_alloc_new (w.alloc (.cells #[.int .u8 n, .int .u8 r, .int .u8 q] 5)) (.cells #[.string ⟨[UInt8.ofNat n, UInt8.ofNat r, UInt8.ofNat q].toArray⟩] 9)
  rw [← HW.out] at hz ⊢
  rw [show (w.alloc (.cells #[.int .u8 n, .int .u8 r, .int .u8 q] 5)).heap.size = w.heap.size + 1 by simp] at hz
  exact ⟨_, rfl, _, rfl, by simp, hz, ((Below.refl _ _).alloc (Nat.le_refl _) _).alloc (by simp) _⟩

/-- A transaction in blocks from base on: at each world that has these. -/
def TxNew (base : Nat) (w : World) (v : Value) (t : PTx) : Prop := ∀ w' : World, (∀ b, base ≤ b → b < w.heap.size → w'.heap[b]? = w.heap[b]?) → TxAt w' v t
section
variable {base : Nat} {w w' : World} {v : Value} {t : PTx}
theorem TxNew.at (h : TxNew base w v t) : TxAt w v t := h w fun _ _ _ => rfl
theorem TxNew.below (h : TxNew base w v t) (hb : Below w.heap.size w w') : TxNew base w' v t := fun w2 h2 => h w2 fun b h3 h4 => (h2 b h3 (Nat.lt_of_lt_of_le h4 hb.size)).trans (hb.block b h4)
theorem TxNew.low {base' : Nat} (h : TxNew base w v t) (hb : base' ≤ base) : TxNew base' w v t := fun w2 h2 => h w2 fun b h3 h4 => h2 b (Nat.le_trans hb h3) h4
theorem TxNew.kept (h : TxNew base w v t) (hk : ∀ b, base ≤ b → w'.heap[b]? = w.heap[b]?) (hs : w'.heap.size = w.heap.size) : TxNew base w' v t := fun w2 h2 => h w2 fun b h3 h4 => (h2 b h3 (hs ▸ h4)).trans (hk b h3)
theorem TxNew.store (h : TxNew base w v t) (p : Addr) (u : Value) (hp : p.block < base) : TxNew base (w.setCell p u) v t :=
  h.kept (fun b hb => Below.heap_setCell _ _ _ _ (by omega)) (by simp)
end
theorem tx_zero (base : Nat) (w : World) : TxNew base w (.agg #[.int .u32 0, .slice none 0 0, .slice none 0 0, .int .u32 0]) noTx := fun w' _ => ⟨_, _, rfl, sl_nil, sl_nil, by show 0 < _; decide, by show 0 < _; decide⟩

/-- The rows of a child lie like this. -/
theorem child_at {w : World} {b1 b2 p1 p2 : Nat} {a : PCl} {cid : ByteArray} {ci tag : Nat} {v : Int} (ho : a.Ok) (hc : cid.size ≤ maxLen) (hci : ci < 4294967296) (hv : -9223372036854775808 ≤ v ∧ v ≤ 9223372036854775807)
    (h1 : w.heap[b1]? = some (.cells #[.string a.id, .int .u32 a.idx, .int .u32 (seqOf a.lock.delay), .slice (some ⟨p1, 0, none⟩) 1 1, .string cid, .int .u32 ci, .int .u32 4294967293, .slice (some ⟨p2, 0, none⟩) 1 1] 81 (0, 0)))
    (h2 : w.heap[b2]? = some (.cells #[.int .i64 v, .string (scrT tag)] 37 (0, 0))) (g1 : w.heap[p1]? = some (.cells #[.string (signW a.br.toNat tag)] 9 (0, 0))) (g2 : w.heap[p2]? = some (.cells #[.string (signW 0 tag)] 9 (0, 0))) :
    TxAt w (.agg #[.int .u32 2, .slice (some ⟨b1, 0, none⟩) 2 2, .slice (some ⟨b2, 0, none⟩) 1 1, .int .u32 0]) (childTx a cid ci tag v) := by
  refine ⟨_, _, rfl, ⟨_, 2, rfl, Nat.le_refl _, by decide, fun i x hi => ?_⟩, ⟨_, 1, rfl, Nat.le_refl _, by decide, fun i x hi => ?_⟩, by show 2 < _; decide, by show 0 < _; decide⟩
  · match i, hi with
    | 0, hi =>
      obtain rfl := Option.some.inj hi
      refine ⟨b1, 0, [.string a.id, .int .u32 a.idx, .int .u32 (seqOf a.lock.delay), .slice (some ⟨p1, 0, none⟩) 1 1], rfl, rfl, fun j u hj => ?_, _, rfl, sl_box g1 (by rw [signW_size]; decide), ho.id, ho.idx, seqOf_lt ho.lock.delay⟩
      rw [cell_at h1]
      match j, hj with
      | 0, hj => exact hj
      | 1, hj => exact hj
      | 2, hj => exact hj
      | 3, hj => exact hj
    | 1, hi =>
      obtain rfl := Option.some.inj hi
      refine ⟨b1, 0, [.string cid, .int .u32 ci, .int .u32 4294967293, .slice (some ⟨p2, 0, none⟩) 1 1], rfl, rfl, fun j u hj => ?_, _, rfl, sl_box g2 (by rw [signW_size]; decide), hc, hci, by show (4294967293 : Nat) < _; omega⟩
      rw [cell_at h1]
      match j, hj with
      | 0, hj => exact hj
      | 1, hj => exact hj
      | 2, hj => exact hj
      | 3, hj => exact hj
    | k + 2, hi => simp [childTx] at hi
  · match i, hi with
    | 0, hi =>
      obtain rfl := Option.some.inj hi
      refine ⟨b2, 0, [.int .i64 v, .string (scrT tag)], rfl, rfl, fun j u hj => ?_, rfl, hv, by dsimp only; rw [scrT_size]; decide⟩
      rw [cell_at h2]
      match j, hj with
      | 0, hj => exact hj
      | 1, hj => exact hj
    | k + 1, hi => simp [childTx] at hi

/-- What is known of each operation's value while the child is put together. -/
def RM (X Y : Nat) (a : PCl) (cid : ByteArray) (ci tag : Nat) (v : Int) (v1 v2 : Value) : Nat → Fact
  | 0 => .val fun _ => .pointer (some ⟨X, 0, none⟩)
  | 1 => .val fun _ => .agg #[.string a.id, .int .u32 a.idx]
  | 2 => .val fun _ => .pointer (some ⟨X, 4, none⟩)
  | 3 => .val fun _ => .agg #[.int .u16 a.lock.tag, .int .u16 a.lock.delay, .int .u32 a.lock.height]
  | 4 => .val fun _ => .int .u32 (seqOf a.lock.delay)
  | 5 => .val fun _ => v1
  | 6 => .val fun _ => .agg #[.string a.id, .int .u32 a.idx, .int .u32 (seqOf a.lock.delay), v1]
  | 7 => .val fun _ => .agg #[.string cid, .int .u32 ci]
  | 8 => .val fun _ => v2
  | 9 => .val fun _ => .agg #[.string cid, .int .u32 ci, .int .u32 4294967293, v2]
  | 10 => .row 2 fun _ => .cells #[.string a.id, .int .u32 a.idx, .int .u32 (seqOf a.lock.delay), v1, .string cid, .int .u32 ci, .int .u32 4294967293, v2] 81 (0, 0)
  | 11 => .val fun _ => .int .u16 tag
  | 12 => .val fun _ => .int .i64 v
  | 13 => .val fun _ => .agg #[.int .i64 v, .string (scrT tag)]
  | 14 => .row 1 fun _ => .cells #[.int .i64 v, .string (scrT tag)] 37 (0, 0)
  | 15 => .val fun d => .agg #[.int .u32 2, d.getD 0 undef, d.getD 1 undef, .int .u32 0]
  | _ => .any
def txV (p q : Nat) : Value := .agg #[.int .u32 2, .slice (some ⟨p, 0, none⟩) 2 2, .slice (some ⟨q, 0, none⟩) 1 1, .int .u32 0]
def MadeIs (t : PTx) (x : POut) (w : World) (e : Ending) (w' : World) : Prop := ∃ p q, e = .returned (txV p q) ∧ w.heap.size ≤ q ∧ w'.heap[q]? = some (.cells #[.int .i64 x.val, .string x.script] 37 (0, 0)) ∧ TxNew w.heap.size w' (txV p q) t ∧ Below w.heap.size w w'
set_option maxRecDepth 100000 in
set_option maxHeartbeats 2000000 in
theorem made_any (a : PCl) (cid : ByteArray) (ci tag : Nat) (v : Int) (ho : a.Ok) (hbr : 0 ≤ a.br ∧ a.br < 3) (hc : cid.size ≤ maxLen) (hci : ci < 4294967296) (ht : tag < 65536) (hv : -9223372036854775808 ≤ v ∧ v ≤ 9223372036854775807) (w : World) :
    Calls Try.prog 25 #[clV a, .agg #[.string cid, .int .u32 ci], .int .u16 tag, .int .i64 v] w (MadeIs (childTx a cid ci tag v) ⟨v, scrT tag⟩ w) := by
  obtain ⟨n, hn⟩ : ∃ n : Nat, a.br = n := ⟨a.br.toNat, by omega⟩
  have hn3 : n < 3 := by omega
  have htn : a.br.toNat = n := by omega
  have hdl := ho.lock.delay
  have HCA := Lib.hid (fun (wz : World) b1 b2 q1 q2 h1 h2 g1 g2 => child_at (w := wz) (b1 := b1) (b2 := b2) (p1 := q1) (p2 := q2) (tag := tag) ho hc hci hv h1 h2 g1 g2)
  rw [htn] at HCA
  unfold clV
  rw [hn]
  clear hbr ho hc hci hv hn htn
  go_enter Try.func25, Try.ntmps25
  go_upto_region 1 with fail
  obtain ⟨X, hX⟩ : ∃ q, q = w.heap.size := ⟨_, rfl⟩
  have hnews := new3 w X hX (.cells #[.string a.id, .int .u32 a.idx, .int .i64 a.val, .int .i64 n, .int .u16 a.lock.tag, .int .u16 a.lock.delay, .int .u32 a.lock.height, .int .i64 a.dead] 29) (.cells #[.string cid, .int .u32 ci] 24) (.cells #[.int .u32 0, .slice none 0 0, .slice none 0 0, .int .u32 0] 43)
  rw [← hX]
  generalize (((w.alloc (.cells #[.string a.id, .int .u32 a.idx, .int .i64 a.val, .int .i64 n, .int .u16 a.lock.tag, .int .u16 a.lock.delay, .int .u32 a.lock.height, .int .i64 a.dead] 29)).alloc (.cells #[.string cid, .int .u32 ci] 24)).alloc (.cells #[.int .u32 0, .slice none 0 0, .slice none 0 0, .int .u32 0] 43)) = w0 at *
  obtain ⟨hz0, hz1, hz2, hal⟩ := hnews
  have hXX : w.heap.size ≤ X := by omega
  have hl2 : X + 1 + 1 < w0.heap.size := (Array.getElem?_eq_some_iff.1 hz2).1
  have HAL := Lib.hid hal
  have HZ0 := Lib.hid hz0
  have HZ1 := Lib.hid hz1
  have HZ2 := Lib.hid hz2
  have c2 : w0.cell? ⟨X, 3, none⟩ = some (.int .i64 n) := cell_at hz0
  clear hz0 hz1 hz2 hal hX
  go_wp2_with fail
  refine (sign_new n tag hn3 ht w0).mono ?_
  rintro e w1 ⟨v1, rfl, p1, rfl, hp1, g1, hb⟩
  have HB1 := Lib.hid hb
  have HG1 := Lib.hid g1
  clear g1 hb c2
  go_wp2_with fail
  refine (sign_new 0 tag (by omega) ht w1).mono ?_
  rintro e w2 ⟨v2, rfl, p2, rfl, hp2, g2, hb⟩
  have hb12 := HB1.out.trans (hb.mono HB1.out.size)
  have hl1 : p1 < w1.heap.size := (Array.getElem?_eq_some_iff.1 HG1.out).1
  have HG1' := Lib.hid ((hb.block p1 hl1).trans HG1.out)
  have HG2 := Lib.hid g2
  have HB := Lib.hid (HAL.out.trans (hb12.mono HAL.out.size))
  have hz0 := (hb12.block X (by omega)).trans HZ0.out
  have hz1 := (hb12.block (X + 1) (by omega)).trans HZ1.out
  have hz2 := (hb12.block (X + 1 + 1) (by omega)).trans HZ2.out
  have hl2' : X + 1 + 1 < w2.heap.size := (Array.getElem?_eq_some_iff.1 hz2).1
  have hsz := HB1.out.size
  clear hb hb12 HB1 HAL HZ0 HZ1 HZ2 g2 HG1
  go_upto_region 3 with fail
  have z0 : w2.cell? ⟨X, 0, none⟩ = some (.string a.id) := cell_at hz0
  have z1 : w2.cell? ⟨X, 1, none⟩ = some (.int .u32 a.idx) := cell_at hz0
  have z4 : w2.cell? ⟨X, 4, none⟩ = some (.int .u16 a.lock.tag) := cell_at hz0
  have z5 : w2.cell? ⟨X, 5, none⟩ = some (.int .u16 a.lock.delay) := cell_at hz0
  have z6 : w2.cell? ⟨X, 6, none⟩ = some (.int .u32 a.lock.height) := cell_at hz0
  have y0 : w2.cell? ⟨X + 1, 0, none⟩ = some (.string cid) := cell_at hz1
  have y1 : w2.cell? ⟨X + 1, 1, none⟩ = some (.int .u32 ci) := cell_at hz1
  clear hz0 hz1
  refine wp_region_made (RM X (X + 1) a cid ci tag v (.slice (some ⟨p1, 0, none⟩) 1 1) (.slice (some ⟨p2, 0, none⟩) 1 1)) 16 (by kernel_rfl) (by kernel_rfl) (by kernel_rfl) (by kernel_rfl) (by decide) (by kernel_rfl) ?_ ?_
  · intro i o hi ho L xs lo hi' wr hmd hni hpre
    obtain ⟨x0, x1, x2, x3, x4, x5, x6, x7, x8, x9, x10, x11, x12, x13, x14, x15, rfl⟩ : ∃ x0 x1 x2 x3 x4 x5 x6 x7 x8 x9 x10 x11 x12 x13 x14 x15, xs = [x0, x1, x2, x3, x4, x5, x6, x7, x8, x9, x10, x11, x12, x13, x14, x15] := by match xs, hmd.len with | [x0, x1, x2, x3, x4, x5, x6, x7, x8, x9, x10, x11, x12, x13, x14, x15], _ => exact ⟨_, _, _, _, _, _, _, _, _, _, _, _, _, _, _, _, rfl⟩
    match i, ho with
    | 0, ho =>
      obtain rfl := Option.some.inj ho
      have kk := fun lx ox ax => @step_pure Try.prog (RM X (X + 1) a cid ci tag v (.slice (some ⟨p1, 0, none⟩) 1 1) (.slice (some ⟨p2, 0, none⟩) 1 1)) lx [x0, x1, x2, x3, x4, x5, x6, x7, x8, x9, x10, x11, x12, x13, x14, x15] ox ax wr 0 (.pointer (some ⟨X, 0, none⟩))
      refine kk _ _ _ ?_ ?_
      · kernel_rfl
      · exact rfl
    | 1, ho =>
      obtain rfl := Option.some.inj ho
      have h_0 : x0 = .pointer (some ⟨X, 0, none⟩) := hmd.rel 0 (hpre 0 (by kernel_rfl))
      subst h_0
      have t0 := below_cells hmd.bel _ _ z0
      have t1 := below_cells hmd.bel _ _ z1
      have kk := fun lx ox ax => @step_pure Try.prog (RM X (X + 1) a cid ci tag v (.slice (some ⟨p1, 0, none⟩) 1 1) (.slice (some ⟨p2, 0, none⟩) 1 1)) lx [(.pointer (some ⟨X, 0, none⟩)), x1, x2, x3, x4, x5, x6, x7, x8, x9, x10, x11, x12, x13, x14, x15] ox ax wr 1 (.agg #[.string a.id, .int .u32 a.idx])
      refine kk _ _ _ ?_ ?_
      · simp [putAll, execOp, go_sem, t0, t1]
      · exact rfl
    | 2, ho =>
      obtain rfl := Option.some.inj ho
      have kk := fun lx ox ax => @step_pure Try.prog (RM X (X + 1) a cid ci tag v (.slice (some ⟨p1, 0, none⟩) 1 1) (.slice (some ⟨p2, 0, none⟩) 1 1)) lx [x0, x1, x2, x3, x4, x5, x6, x7, x8, x9, x10, x11, x12, x13, x14, x15] ox ax wr 2 (.pointer (some ⟨X, 4, none⟩))
      refine kk _ _ _ ?_ ?_
      · kernel_rfl
      · exact rfl
    | 3, ho =>
      obtain rfl := Option.some.inj ho
      have h_2 : x2 = .pointer (some ⟨X, 4, none⟩) := hmd.rel 2 (hpre 2 (by kernel_rfl))
      subst h_2
      have t4 := below_cells hmd.bel _ _ z4
      have t5 := below_cells hmd.bel _ _ z5
      have t6 := below_cells hmd.bel _ _ z6
      have kk := fun lx ox ax => @step_pure Try.prog (RM X (X + 1) a cid ci tag v (.slice (some ⟨p1, 0, none⟩) 1 1) (.slice (some ⟨p2, 0, none⟩) 1 1)) lx [x0, x1, (.pointer (some ⟨X, 4, none⟩)), x3, x4, x5, x6, x7, x8, x9, x10, x11, x12, x13, x14, x15] ox ax wr 3 (.agg #[.int .u16 a.lock.tag, .int .u16 a.lock.delay, .int .u32 a.lock.height])
      refine kk _ _ _ ?_ ?_
      · simp [putAll, execOp, go_sem, t4, t5, t6]
      · exact rfl
    | 4, ho =>
      obtain rfl := Option.some.inj ho
      have h_3 : x3 = .agg #[.int .u16 a.lock.tag, .int .u16 a.lock.delay, .int .u32 a.lock.height] := hmd.rel 3 (hpre 3 (by kernel_rfl))
      subst h_3
      have kk := fun lx ox ax => @step_call Try.prog (RM X (X + 1) a cid ci tag v (.slice (some ⟨p1, 0, none⟩) 1 1) (.slice (some ⟨p2, 0, none⟩) 1 1)) lx [x0, x1, x2, (.agg #[.int .u16 a.lock.tag, .int .u16 a.lock.delay, .int .u32 a.lock.height]), x4, x5, x6, x7, x8, x9, x10, x11, x12, x13, x14, x15] ox ax wr 4 _ _ _ (seq_any a.lock.tag a.lock.delay a.lock.height wr hdl)
      refine kk _ _ _ ?_ ?_
      · kernel_rfl
      · exact fun e w' ⟨he, hb⟩ => ⟨_, he, hb, rfl⟩
    | 5, ho =>
      obtain rfl := Option.some.inj ho
      have kk := fun lx ox ax => @step_pure Try.prog (RM X (X + 1) a cid ci tag v (.slice (some ⟨p1, 0, none⟩) 1 1) (.slice (some ⟨p2, 0, none⟩) 1 1)) lx [x0, x1, x2, x3, x4, x5, x6, x7, x8, x9, x10, x11, x12, x13, x14, x15] ox ax wr 5 (.slice (some ⟨p1, 0, none⟩) 1 1)
      refine kk _ _ _ ?_ ?_
      · kernel_rfl
      · exact rfl
    | 6, ho =>
      obtain rfl := Option.some.inj ho
      have h_1 : x1 = .agg #[.string a.id, .int .u32 a.idx] := hmd.rel 1 (hpre 1 (by kernel_rfl))
      subst h_1
      have h_4 : x4 = .int .u32 (seqOf a.lock.delay) := hmd.rel 4 (hpre 4 (by kernel_rfl))
      subst h_4
      have h_5 : x5 = .slice (some ⟨p1, 0, none⟩) 1 1 := hmd.rel 5 (hpre 5 (by kernel_rfl))
      subst h_5
      have kk := fun lx ox ax => @step_pure Try.prog (RM X (X + 1) a cid ci tag v (.slice (some ⟨p1, 0, none⟩) 1 1) (.slice (some ⟨p2, 0, none⟩) 1 1)) lx [x0, (.agg #[.string a.id, .int .u32 a.idx]), x2, x3, (.int .u32 (seqOf a.lock.delay)), (.slice (some ⟨p1, 0, none⟩) 1 1), x6, x7, x8, x9, x10, x11, x12, x13, x14, x15] ox ax wr 6 (.agg #[.string a.id, .int .u32 a.idx, .int .u32 (seqOf a.lock.delay), .slice (some ⟨p1, 0, none⟩) 1 1])
      refine kk _ _ _ ?_ ?_
      · kernel_rfl
      · exact rfl
    | 7, ho =>
      obtain rfl := Option.some.inj ho
      have t0 := below_cells hmd.bel _ _ y0
      have t1 := below_cells hmd.bel _ _ y1
      have kk := fun lx ox ax => @step_pure Try.prog (RM X (X + 1) a cid ci tag v (.slice (some ⟨p1, 0, none⟩) 1 1) (.slice (some ⟨p2, 0, none⟩) 1 1)) lx [x0, x1, x2, x3, x4, x5, x6, x7, x8, x9, x10, x11, x12, x13, x14, x15] ox ax wr 7 (.agg #[.string cid, .int .u32 ci])
      refine kk _ _ _ ?_ ?_
      · simp [putAll, execOp, go_sem, t0, t1]
      · exact rfl
    | 8, ho =>
      obtain rfl := Option.some.inj ho
      have kk := fun lx ox ax => @step_pure Try.prog (RM X (X + 1) a cid ci tag v (.slice (some ⟨p1, 0, none⟩) 1 1) (.slice (some ⟨p2, 0, none⟩) 1 1)) lx [x0, x1, x2, x3, x4, x5, x6, x7, x8, x9, x10, x11, x12, x13, x14, x15] ox ax wr 8 (.slice (some ⟨p2, 0, none⟩) 1 1)
      refine kk _ _ _ ?_ ?_
      · kernel_rfl
      · exact rfl
    | 9, ho =>
      obtain rfl := Option.some.inj ho
      have h_7 : x7 = .agg #[.string cid, .int .u32 ci] := hmd.rel 7 (hpre 7 (by kernel_rfl))
      subst h_7
      have h_8 : x8 = .slice (some ⟨p2, 0, none⟩) 1 1 := hmd.rel 8 (hpre 8 (by kernel_rfl))
      subst h_8
      have kk := fun lx ox ax => @step_pure Try.prog (RM X (X + 1) a cid ci tag v (.slice (some ⟨p1, 0, none⟩) 1 1) (.slice (some ⟨p2, 0, none⟩) 1 1)) lx [x0, x1, x2, x3, x4, x5, x6, (.agg #[.string cid, .int .u32 ci]), (.slice (some ⟨p2, 0, none⟩) 1 1), x9, x10, x11, x12, x13, x14, x15] ox ax wr 9 (.agg #[.string cid, .int .u32 ci, .int .u32 4294967293, .slice (some ⟨p2, 0, none⟩) 1 1])
      refine kk _ _ _ ?_ ?_
      · kernel_rfl
      · exact rfl
    | 10, ho =>
      obtain rfl := Option.some.inj ho
      have h_6 : x6 = .agg #[.string a.id, .int .u32 a.idx, .int .u32 (seqOf a.lock.delay), .slice (some ⟨p1, 0, none⟩) 1 1] := hmd.rel 6 (hpre 6 (by kernel_rfl))
      subst h_6
      have h_9 : x9 = .agg #[.string cid, .int .u32 ci, .int .u32 4294967293, .slice (some ⟨p2, 0, none⟩) 1 1] := hmd.rel 9 (hpre 9 (by kernel_rfl))
      subst h_9
      have kk := fun lx ox ax => @step_new Try.prog (RM X (X + 1) a cid ci tag v (.slice (some ⟨p1, 0, none⟩) 1 1) (.slice (some ⟨p2, 0, none⟩) 1 1)) lx [x0, x1, x2, x3, x4, x5, (.agg #[.string a.id, .int .u32 a.idx, .int .u32 (seqOf a.lock.delay), .slice (some ⟨p1, 0, none⟩) 1 1]), x7, x8, (.agg #[.string cid, .int .u32 ci, .int .u32 4294967293, .slice (some ⟨p2, 0, none⟩) 1 1]), x10, x11, x12, x13, x14, x15] ox ax wr 10 (.slice (some ⟨wr.heap.size, 0, none⟩) 2 2) (.cells #[.string a.id, .int .u32 a.idx, .int .u32 (seqOf a.lock.delay), .slice (some ⟨p1, 0, none⟩) 1 1, .string cid, .int .u32 ci, .int .u32 4294967293, .slice (some ⟨p2, 0, none⟩) 1 1] 81)
      refine kk _ _ _ ?_ ?_
      · kernel_rfl
      · exact ⟨_, Nat.le_refl _, by simp, rfl, heap_alloc_new wr _⟩
    | 11, ho =>
      obtain rfl := Option.some.inj ho
      have kk := fun lx ox ax => @step_pure Try.prog (RM X (X + 1) a cid ci tag v (.slice (some ⟨p1, 0, none⟩) 1 1) (.slice (some ⟨p2, 0, none⟩) 1 1)) lx [x0, x1, x2, x3, x4, x5, x6, x7, x8, x9, x10, x11, x12, x13, x14, x15] ox ax wr 11 (.int .u16 tag)
      refine kk _ _ _ ?_ ?_
      · kernel_rfl
      · exact rfl
    | 12, ho =>
      obtain rfl := Option.some.inj ho
      have kk := fun lx ox ax => @step_pure Try.prog (RM X (X + 1) a cid ci tag v (.slice (some ⟨p1, 0, none⟩) 1 1) (.slice (some ⟨p2, 0, none⟩) 1 1)) lx [x0, x1, x2, x3, x4, x5, x6, x7, x8, x9, x10, x11, x12, x13, x14, x15] ox ax wr 12 (.int .i64 v)
      refine kk _ _ _ ?_ ?_
      · kernel_rfl
      · exact rfl
    | 13, ho =>
      obtain rfl := Option.some.inj ho
      have h_11 : x11 = .int .u16 tag := hmd.rel 11 (hpre 11 (by kernel_rfl))
      subst h_11
      have h_12 : x12 = .int .i64 v := hmd.rel 12 (hpre 12 (by kernel_rfl))
      subst h_12
      have kk := fun lx ox ax => @step_call Try.prog (RM X (X + 1) a cid ci tag v (.slice (some ⟨p1, 0, none⟩) 1 1) (.slice (some ⟨p2, 0, none⟩) 1 1)) lx [x0, x1, x2, x3, x4, x5, x6, x7, x8, x9, x10, (.int .u16 tag), (.int .i64 v), x13, x14, x15] ox ax wr 13 _ _ _ (paid_any tag v ht wr)
      refine kk _ _ _ ?_ ?_
      · kernel_rfl
      · exact fun e w' ⟨he, hb⟩ => ⟨_, he, hb, rfl⟩
    | 14, ho =>
      obtain rfl := Option.some.inj ho
      have h_13 : x13 = .agg #[.int .i64 v, .string (scrT tag)] := hmd.rel 13 (hpre 13 (by kernel_rfl))
      subst h_13
      have kk := fun lx ox ax => @step_new Try.prog (RM X (X + 1) a cid ci tag v (.slice (some ⟨p1, 0, none⟩) 1 1) (.slice (some ⟨p2, 0, none⟩) 1 1)) lx [x0, x1, x2, x3, x4, x5, x6, x7, x8, x9, x10, x11, x12, (.agg #[.int .i64 v, .string (scrT tag)]), x14, x15] ox ax wr 14 (.slice (some ⟨wr.heap.size, 0, none⟩) 1 1) (.cells #[.int .i64 v, .string (scrT tag)] 37)
      refine kk _ _ _ ?_ ?_
      · kernel_rfl
      · exact ⟨_, Nat.le_refl _, by simp, rfl, heap_alloc_new wr _⟩
    | 15, ho =>
      obtain rfl := Option.some.inj ho
      obtain ⟨p10, -, -, h10, -⟩ : ∃ b, lo 10 ≤ b ∧ b < hi' 10 ∧ x10 = .slice (some ⟨b, 0, none⟩) 2 2 ∧ _ := hmd.rel 10 (hpre 10 (by kernel_rfl))
      obtain ⟨p14, -, -, h14, -⟩ : ∃ b, lo 14 ≤ b ∧ b < hi' 14 ∧ x14 = .slice (some ⟨b, 0, none⟩) 1 1 ∧ _ := hmd.rel 14 (hpre 14 (by kernel_rfl))
      subst h10
      subst h14
      have kk := fun lx ox ax => @step_pure Try.prog (RM X (X + 1) a cid ci tag v (.slice (some ⟨p1, 0, none⟩) 1 1) (.slice (some ⟨p2, 0, none⟩) 1 1)) lx [x0, x1, x2, x3, x4, x5, x6, x7, x8, x9, (.slice (some ⟨p10, 0, none⟩) 2 2), x11, x12, x13, (.slice (some ⟨p14, 0, none⟩) 1 1), x15] ox ax wr 15 (.agg #[.int .u32 2, .slice (some ⟨p10, 0, none⟩) 2 2, .slice (some ⟨p14, 0, none⟩) 1 1, .int .u32 0])
      refine kk _ _ _ ?_ ?_
      · kernel_rfl
      · exact rfl
    | q + 16, ho => omega
  · intro xs lo hi wr hmd
    obtain ⟨x0, x1, x2, x3, x4, x5, x6, x7, x8, x9, x10, x11, x12, x13, x14, x15, rfl⟩ : ∃ x0 x1 x2 x3 x4 x5 x6 x7 x8 x9 x10 x11 x12 x13 x14 x15, xs = [x0, x1, x2, x3, x4, x5, x6, x7, x8, x9, x10, x11, x12, x13, x14, x15] := by match xs, hmd.len with | [x0, x1, x2, x3, x4, x5, x6, x7, x8, x9, x10, x11, x12, x13, x14, x15], _ => exact ⟨_, _, _, _, _, _, _, _, _, _, _, _, _, _, _, _, rfl⟩
    simp only [putAll]
    change wpList _ _ _ (_ :: []) _ _
    obtain ⟨p10, l10, -, h10, g10⟩ : ∃ b, lo 10 ≤ b ∧ b < hi 10 ∧ x10 = .slice (some ⟨b, 0, none⟩) 2 2 ∧ wr.heap[b]? = some (.cells #[.string a.id, .int .u32 a.idx, .int .u32 (seqOf a.lock.delay), .slice (some ⟨p1, 0, none⟩) 1 1, .string cid, .int .u32 ci, .int .u32 4294967293, .slice (some ⟨p2, 0, none⟩) 1 1] 81 (0, 0)) := hmd.rel 10 (by decide)
    obtain ⟨p14, l14, -, h14, g14⟩ : ∃ b, lo 14 ≤ b ∧ b < hi 14 ∧ x14 = .slice (some ⟨b, 0, none⟩) 1 1 ∧ wr.heap[b]? = some (.cells #[.int .i64 v, .string (scrT tag)] 37 (0, 0)) := hmd.rel 14 (by decide)
    subst h10
    subst h14
    have e15 : x15 = .agg #[.int .u32 2, .slice (some ⟨p10, 0, none⟩) 2 2, .slice (some ⟨p14, 0, none⟩) 1 1, .int .u32 0] := hmd.rel 15 (by decide)
    subst e15
    have hgz : wr.heap[X + 1 + 1]? = _ := (hmd.bel.block _ hl2').trans hz2
    have hg1 : wr.heap[p1]? = _ := (hmd.bel.block _ (Array.getElem?_eq_some_iff.1 HG1'.out).1).trans HG1'.out
    have hg2 : wr.heap[p2]? = _ := (hmd.bel.block _ (Array.getElem?_eq_some_iff.1 HG2.out).1).trans HG2.out
    have hL10 := (hmd.lohi 10 (by decide)).1
    have hL14 := (hmd.lohi 14 (by decide)).1
    have HBW := Lib.hid (HB.out.trans (hmd.bel.mono HB.out.size))
    have HTX := Lib.hid (show TxNew w.heap.size (wr.setRow (X + 1 + 1) #[.int .u32 2, .slice (some ⟨p10, 0, none⟩) 2 2, .slice (some ⟨p14, 0, none⟩) 1 1, .int .u32 0]) (.agg #[.int .u32 2, .slice (some ⟨p10, 0, none⟩) 2 2, .slice (some ⟨p14, 0, none⟩) 1 1, .int .u32 0]) (childTx a cid ci tag v) from fun w' hw' => by
      have key : ∀ (q : Nat) (ob : Obj), w.heap.size ≤ q → q ≠ X + 1 + 1 → wr.heap[q]? = some ob → w'.heap[q]? = some ob := fun q ob hq hn hg => by
        have e := setRow_other wr (X + 1 + 1) q #[.int .u32 2, .slice (some ⟨p10, 0, none⟩) 2 2, .slice (some ⟨p14, 0, none⟩) 1 1, .int .u32 0] hn
        have e2 := e.trans hg
        exact (hw' q hq (Array.getElem?_eq_some_iff.1 e2).1).trans e2
      exact HCA.out w' p10 p14 p1 p2 (key p10 _ (by omega) (by omega) g10) (key p14 _ (by omega) (by omega) g14) (key p1 _ (by omega) (by omega) hg1) (key p2 _ (by omega) (by omega) hg2))
    have HGZ := Lib.hid hgz
    have HG14 := Lib.hid (show (wr.setRow (X + 1 + 1) #[.int .u32 2, .slice (some ⟨p10, 0, none⟩) 2 2, .slice (some ⟨p14, 0, none⟩) 1 1, .int .u32 0]).heap[p14]? = _ from (setRow_other wr (X + 1 + 1) p14 _ (by omega)).trans g14)
    have hq14 : w.heap.size ≤ p14 := by omega
    clear hmd g10 g14 hg1 hg2 hgz z0 z1 z4 z5 z6 y0 y1 hz2
    refine wpList_store_row ?_ 43 (.tmp 8) (.tmp 40) ?_ (X + 1 + 1) #[.int .u32 2, .slice (some ⟨p10, 0, none⟩) 2 2, .slice (some ⟨p14, 0, none⟩) 1 1, .int .u32 0] ?_ ?_ 43 _ HGZ.out ?_ ?_ ?_ ?_
    · rfl
    · rfl
    · kernel_rfl
    · kernel_rfl
    · kernel_rfl
    · rfl
    · kernel_rfl
    have hq := setRow_heap wr (X + 1 + 1) _ #[.int .u32 2, .slice (some ⟨p10, 0, none⟩) 2 2, .slice (some ⟨p14, 0, none⟩) 1 1, .int .u32 0] _ _ HGZ.out
    have HB4 := Lib.hid (below_row HBW.out (show w.heap.size ≤ X + 1 + 1 by omega) #[.int .u32 2, .slice (some ⟨p10, 0, none⟩) 2 2, .slice (some ⟨p14, 0, none⟩) 1 1, .int .u32 0])
    generalize wr.setRow (X + 1 + 1) #[.int .u32 2, .slice (some ⟨p10, 0, none⟩) 2 2, .slice (some ⟨p14, 0, none⟩) 1 1, .int .u32 0] = w4 at *
    have r0 : w4.cell? ⟨X + 1 + 1, 0, none⟩ = some (.int .u32 2) := cell_at hq
    have r1 : w4.cell? ⟨X + 1 + 1, 1, none⟩ = some (.slice (some ⟨p10, 0, none⟩) 2 2) := cell_at hq
    have r2 : w4.cell? ⟨X + 1 + 1, 2, none⟩ = some (.slice (some ⟨p14, 0, none⟩) 1 1) := cell_at hq
    have r3 : w4.cell? ⟨X + 1 + 1, 3, none⟩ = some (.int .u32 0) := cell_at hq
    go_wp2_with fail
    exact bodyPost_ret (v := .agg #[.int .u32 2, .slice (some ⟨p10, 0, none⟩) 2 2, .slice (some ⟨p14, 0, none⟩) 1 1, .int .u32 0]) (by simp [results, Try.results25, go_sem, r0, r1, r2, r3]) rfl ⟨p10, p14, rfl, hq14, HG14.out, HTX.out, HB4.out⟩
end Go.Proofs.Ytmakghcoehkphaa
end

section
/-
  The size of a child. Conditions: none.
-/
namespace Go.Proofs.Ytmakghcoehkphaa
open Go.RowKit Go.BigFrame
set_option linter.unusedVariables false
set_option linter.unusedSimpArgs false

/-- A text of 32 equal bytes. -/
def rep32 (x : UInt8) : ByteArray := ⟨(List.replicate 32 x).toArray⟩
theorem rep32_size (x : UInt8) : (rep32 x).size = 32 := by simp [rep32, ByteArray.size]
theorem rep32_inj {x y : UInt8} (h : rep32 x = rep32 y) : x = y := by
  have h1 : List.replicate 32 x = List.replicate 32 y := by simpa [rep32] using h
  simpa using congrArg (fun l => l.head?) h1
theorem repeat_any (x : UInt8) (w : World) : Calls Try.prog 35 #[.string ⟨#[x]⟩, .int .i64 32] w fun e w' => e = .returned (.string (rep32 x)) ∧ Below w.heap.size w w' := by
  have h := Try.strings_Repeat (ByteArray.mk #[x]) 32 w (by omega) (by rw [show (ByteArray.mk #[x]).size = 1 from rfl]; omega)
  have hr : ∀ c, Lib.repeatL [x] c = List.replicate c x := by
    intro c
    induction c with
    | zero => rfl
    | succ c ih => simp [Lib.repeatL, ih, List.replicate_succ]
  rw [show (ByteArray.mk #[x]).data.toList = [x] from rfl, hr] at h
  exact h
def aCl : PCl := ⟨rep32 97, 0, 0, 0, ⟨0, 0, 0⟩, 0⟩
def aTx : PTx := childTx aCl (rep32 98) 0 1 0
theorem aCl_ok : aCl.Ok := ⟨by show (rep32 97).size ≤ _; rw [rep32_size]; decide, by show 0 < _; decide, by show (_ : Int) ≤ 0 ∧ (0 : Int) ≤ _; decide, by show (_ : Int) ≤ 0 ∧ (0 : Int) ≤ _; decide, ⟨by show 0 < _; decide, by show 0 < _; decide, by show 0 < _; decide⟩, by show (_ : Int) ≤ 0 ∧ (0 : Int) ≤ _; decide⟩
theorem not_base {x : UInt8} (i : Nat) (h : x ≠ 0) : isBase (rep32 x) i = false := by
  unfold isBase
  rw [show decide (rep32 x = zeros32) = false from decide_eq_false (fun e => h (rep32_inj (show rep32 x = rep32 0 from e)))]
  rfl
theorem aTx_check : checkOf aTx = 0 := child_check (rep32_size _) (rep32_size _) (not_base _ (by decide)) (not_base _ (by decide)) (fun e => absurd (rep32_inj (congrArg Prod.fst e)) (by decide)) (by decide)
theorem aTx_size : sizeE aTx = 113 := child_size aTx_check

def Fact.tx (t : PTx) : Fact := ⟨fun v _ lo hi w => ∀ w' : World, (∀ b, lo ≤ b → b < hi → w'.heap[b]? = w.heap[b]?) → TxAt w' v t, fun hk h w2 h2 => h w2 fun b h3 h4 => (h2 b h3 h4).trans (hk b h4)⟩
def RZ (X : Nat) : Nat → Fact
  | 0 => .val fun _ => clV aCl
  | 1 => .val fun _ => .string (rep32 98)
  | 2 => .val fun _ => .agg #[.string (rep32 98), .int .u32 0]
  | 3 => .tx aTx
  | 4 => .val fun _ => .tuple #[.int .i64 113, .int .i64 0]
  | 5 => .val fun _ => .tuple #[.int .i64 113, .int .i64 0]
  | 6 => .val fun _ => .int .i64 113
  | 7 => .val fun _ => .int .i64 0
  | 8 => .val fun _ => .int .i64 113
  | 9 => .val fun _ => .int .i64 0
  | _ => .any
set_option maxRecDepth 100000 in
set_option maxHeartbeats 2000000 in
theorem csize_any (w : World) : Calls Try.prog 15 #[] w (CIs' 113 w) := by
  go_enter Try.func15, Try.ntmps15
  go_wp2_with fail
  refine (repeat_any 97 w).mono ?_
  rintro e w1 ⟨rfl, hb⟩
  have HB := Lib.hid hb
  clear hb
  obtain ⟨s97, hs⟩ : ∃ s, s = rep32 97 := ⟨_, rfl⟩
  rw [← hs]
  have HS := Lib.hid hs
  clear hs
  go_upto_region 2 with fail
  have hz := heap_alloc_new w1 (.cells #[.string s97, .int .u32 0, .int .i64 0, .int .i64 0, .int .u16 0, .int .u16 0, .int .u32 0, .int .i64 0] 29)
  have hal : Below w1.heap.size w1 (w1.alloc (.cells #[.string s97, .int .u32 0, .int .i64 0, .int .i64 0, .int .u16 0, .int .u16 0, .int .u32 0, .int .i64 0] 29)) := (Below.refl _ _).alloc (Nat.le_refl _) _
  obtain ⟨X, hX⟩ : ∃ q, q = w1.heap.size := ⟨_, rfl⟩
  rw [← hX] at hz ⊢
  generalize w1.alloc (.cells #[.string s97, .int .u32 0, .int .i64 0, .int .i64 0, .int .u16 0, .int .u16 0, .int .u32 0, .int .i64 0] 29) = w2 at *
  have z0 : w2.cell? ⟨X, 0, none⟩ = some (.string s97) := cell_at hz
  have z1 : w2.cell? ⟨X, 1, none⟩ = some (.int .u32 0) := cell_at hz
  have z2 : w2.cell? ⟨X, 2, none⟩ = some (.int .i64 0) := cell_at hz
  have z3 : w2.cell? ⟨X, 3, none⟩ = some (.int .i64 0) := cell_at hz
  have z4 : w2.cell? ⟨X, 4, none⟩ = some (.int .u16 0) := cell_at hz
  have z5 : w2.cell? ⟨X, 5, none⟩ = some (.int .u16 0) := cell_at hz
  have z6 : w2.cell? ⟨X, 6, none⟩ = some (.int .u32 0) := cell_at hz
  have z7 : w2.cell? ⟨X, 7, none⟩ = some (.int .i64 0) := cell_at hz
  have HB := Lib.hid (HB.out.trans (hal.mono HB.out.size))
  clear hz hal hX
  refine wp_region_made (RZ X) 10 (by kernel_rfl) (by kernel_rfl) (by kernel_rfl) (by kernel_rfl) (by decide) (by kernel_rfl) ?_ ?_
  · intro i o hi ho L xs lo hi' wr hmd hni hpre
    obtain ⟨x0, x1, x2, x3, x4, x5, x6, x7, x8, x9, rfl⟩ : ∃ x0 x1 x2 x3 x4 x5 x6 x7 x8 x9, xs = [x0, x1, x2, x3, x4, x5, x6, x7, x8, x9] := by match xs, hmd.len with | [x0, x1, x2, x3, x4, x5, x6, x7, x8, x9], _ => exact ⟨_, _, _, _, _, _, _, _, _, _, rfl⟩
    match i, ho with
    | 0, ho =>
      obtain rfl := Option.some.inj ho
      have t0 := below_cells hmd.bel _ _ z0
      have t1 := below_cells hmd.bel _ _ z1
      have t2 := below_cells hmd.bel _ _ z2
      have t3 := below_cells hmd.bel _ _ z3
      have t4 := below_cells hmd.bel _ _ z4
      have t5 := below_cells hmd.bel _ _ z5
      have t6 := below_cells hmd.bel _ _ z6
      have t7 := below_cells hmd.bel _ _ z7
      have kk := fun lx ox ax => @step_pure Try.prog (RZ X) lx [x0, x1, x2, x3, x4, x5, x6, x7, x8, x9] ox ax wr 0 (.agg #[.string s97, .int .u32 0, .int .i64 0, .int .i64 0, .int .u16 0, .int .u16 0, .int .u32 0, .int .i64 0])
      refine kk _ _ _ ?_ ?_
      · simp [putAll, execOp, go_sem, t0, t1, t2, t3, t4, t5, t6, t7]
      · show _ = clV aCl
        rw [HS.out]
        rfl
    | 1, ho =>
      obtain rfl := Option.some.inj ho
      have kk := fun lx ox ax => @step_call Try.prog (RZ X) lx [x0, x1, x2, x3, x4, x5, x6, x7, x8, x9] ox ax wr 1 _ _ _ (repeat_any 98 wr)
      refine kk _ _ _ ?_ ?_
      · kernel_rfl
      · exact fun e w' ⟨he, hb⟩ => ⟨_, he, hb, rfl⟩
    | 2, ho =>
      obtain rfl := Option.some.inj ho
      have h_1 : x1 = .string (rep32 98) := hmd.rel 1 (hpre 1 (by kernel_rfl))
      subst h_1
      have kk := fun lx ox ax => @step_pure Try.prog (RZ X) lx [x0, (.string (rep32 98)), x2, x3, x4, x5, x6, x7, x8, x9] ox ax wr 2 (.agg #[.string (rep32 98), .int .u32 0])
      refine kk _ _ _ ?_ ?_
      · kernel_rfl
      · exact rfl
    | 3, ho =>
      obtain rfl := Option.some.inj ho
      have h_0 : x0 = clV aCl := hmd.rel 0 (hpre 0 (by kernel_rfl))
      subst h_0
      have h_2 : x2 = .agg #[.string (rep32 98), .int .u32 0] := hmd.rel 2 (hpre 2 (by kernel_rfl))
      subst h_2
      have kk := fun lx ox ax => @step_call Try.prog (RZ X) lx [(clV aCl), x1, (.agg #[.string (rep32 98), .int .u32 0]), x3, x4, x5, x6, x7, x8, x9] ox ax wr 3 _ _ _ (made_any aCl (rep32 98) 0 1 0 aCl_ok (by decide) (by rw [rep32_size]; decide) (by decide) (by decide) (by decide) wr)
      refine kk _ _ _ ?_ ?_
      · kernel_rfl
      · exact fun e w' ⟨p, q, he, _, _, hn, hb⟩ => ⟨_, he, hb, hn⟩
    | 4, ho =>
      obtain rfl := Option.some.inj ho
      have htx : TxAt wr x3 aTx := (hmd.rel 3 (hpre 3 (by kernel_rfl))) wr (fun _ _ _ => rfl)
      obtain ⟨va, vo, rfl, ha, ho, -, -⟩ := id htx
      obtain ⟨a1, c1, rfl, -, -⟩ := ha.shape
      obtain ⟨a2, c2, rfl, -, -⟩ := ho.shape
      have hq := isize_any _ _ wr htx (by decide)
      rw [aTx_size, aTx_check] at hq
      have kk := fun lx ox ax => @step_call Try.prog (RZ X) lx [x0, x1, x2, (.agg #[.int .u32 aTx.ver, .slice a1 aTx.ins.length c1, .slice a2 aTx.outs.length c2, .int .u32 aTx.lock]), x4, x5, x6, x7, x8, x9] ox ax wr 4 _ _ _ hq
      refine kk _ _ _ ?_ ?_
      · kernel_rfl
      · exact fun e w' ⟨he, hb⟩ => ⟨_, he, hb, rfl⟩
    | 5, ho =>
      obtain rfl := Option.some.inj ho
      have h_4 : x4 = .tuple #[.int .i64 113, .int .i64 0] := hmd.rel 4 (hpre 4 (by kernel_rfl))
      subst h_4
      have kk := fun lx ox ax => @step_pure Try.prog (RZ X) lx [x0, x1, x2, x3, (.tuple #[.int .i64 113, .int .i64 0]), x5, x6, x7, x8, x9] ox ax wr 5 (.tuple #[.int .i64 113, .int .i64 0])
      refine kk _ _ _ ?_ ?_
      · kernel_rfl
      · exact rfl
    | 6, ho =>
      obtain rfl := Option.some.inj ho
      have h_5 : x5 = .tuple #[.int .i64 113, .int .i64 0] := hmd.rel 5 (hpre 5 (by kernel_rfl))
      subst h_5
      have kk := fun lx ox ax => @step_pure Try.prog (RZ X) lx [x0, x1, x2, x3, x4, (.tuple #[.int .i64 113, .int .i64 0]), x6, x7, x8, x9] ox ax wr 6 (.int .i64 113)
      refine kk _ _ _ ?_ ?_
      · kernel_rfl
      · exact rfl
    | 7, ho =>
      obtain rfl := Option.some.inj ho
      have h_5 : x5 = .tuple #[.int .i64 113, .int .i64 0] := hmd.rel 5 (hpre 5 (by kernel_rfl))
      subst h_5
      have kk := fun lx ox ax => @step_pure Try.prog (RZ X) lx [x0, x1, x2, x3, x4, (.tuple #[.int .i64 113, .int .i64 0]), x6, x7, x8, x9] ox ax wr 7 (.int .i64 0)
      refine kk _ _ _ ?_ ?_
      · kernel_rfl
      · exact rfl
    | 8, ho =>
      obtain rfl := Option.some.inj ho
      have h_6 : x6 = .int .i64 113 := hmd.rel 6 (hpre 6 (by kernel_rfl))
      subst h_6
      have kk := fun lx ox ax => @step_pure Try.prog (RZ X) lx [x0, x1, x2, x3, x4, x5, (.int .i64 113), x7, x8, x9] ox ax wr 8 (.int .i64 113)
      refine kk _ _ _ ?_ ?_
      · kernel_rfl
      · exact rfl
    | 9, ho =>
      obtain rfl := Option.some.inj ho
      have h_7 : x7 = .int .i64 0 := hmd.rel 7 (hpre 7 (by kernel_rfl))
      subst h_7
      have kk := fun lx ox ax => @step_pure Try.prog (RZ X) lx [x0, x1, x2, x3, x4, x5, x6, (.int .i64 0), x8, x9] ox ax wr 9 (.int .i64 0)
      refine kk _ _ _ ?_ ?_
      · kernel_rfl
      · exact rfl
    | q + 10, ho => omega
  · intro xs lo hi wr hmd
    obtain ⟨x0, x1, x2, x3, x4, x5, x6, x7, x8, x9, rfl⟩ : ∃ x0 x1 x2 x3 x4 x5 x6 x7 x8 x9, xs = [x0, x1, x2, x3, x4, x5, x6, x7, x8, x9] := by match xs, hmd.len with | [x0, x1, x2, x3, x4, x5, x6, x7, x8, x9], _ => exact ⟨_, _, _, _, _, _, _, _, _, _, rfl⟩
    simp only [putAll]
    change wpList _ _ _ [] _ _
    have e6 : x6 = .int .i64 113 := hmd.rel 6 (by decide)
    have e7 : x7 = .int .i64 0 := hmd.rel 7 (by decide)
    have e8 : x8 = .int .i64 113 := hmd.rel 8 (by decide)
    have e9 : x9 = .int .i64 0 := hmd.rel 9 (by decide)
    subst e6 e7 e8 e9
    have HB2 := Lib.hid (HB.out.trans (hmd.bel.mono HB.out.size))
    clear hmd z0 z1 z2 z3 z4 z5 z6 z7
    go_wp2_with fail
    go_ret
    exact ⟨rfl, HB2.out⟩
end Go.Proofs.Ytmakghcoehkphaa
end

section
/-
  The fee that a child bids, both ways. Conditions: the numbers are ints.
-/
namespace Go.Proofs.Ytmakghcoehkphaa
open Go.RowKit Go.BigFrame
set_option linter.unusedVariables false
set_option linter.unusedSimpArgs false

def bidE (rate fee size : Int) : Int × Int :=
  if goodA fee = false ∨ size < 0 ∨ 1000000 < size then (0, 3) else if (feeE rate (size + 113)).2 ≠ 0 then (0, (feeE rate (size + 113)).2) else (max ((feeE rate (size + 113)).1 - fee) 113, 0)
theorem feeE_cases (r s : Int) : (∃ n, feeE r s = (n, 0) ∧ 0 ≤ n ∧ n ≤ 100000000001 ∧ n = (r * s + 999) / 1000 ∧ (0 ≤ r ∧ r ≤ 100000000) ∧ 0 ≤ s ∧ s ≤ 1000000) ∨ feeE r s = (0, 3) := by
  by_cases h : (0 ≤ r ∧ r ≤ 100000000) ∧ 0 ≤ s ∧ s ≤ 1000000
  · have hm := mul_in h
    refine .inl ⟨(r * s + 999) / 1000, if_pos h, by omega, by omega, rfl, h⟩
  · exact .inr (if_neg h)
set_option maxRecDepth 100000 in
set_option maxHeartbeats 2000000 in
theorem cbid_any (r f s : Int) (w : World) : Calls Try.prog 12 #[.int .i64 r, .int .i64 f, .int .i64 s] w (PBs (bidE r f s) w) := by
  obtain ⟨z, hz⟩ : ∃ z, z = bidE r f s := ⟨_, rfl⟩
  rw [← hz]
  have HG := Lib.hid (good_any f w)
  by_cases hg : goodA f = true
  rotate_left
  · have hg' : goodA f = false := by simpa using hg
    rw [hg'] at HG
    have HZ := Lib.hid (show z = (0, 3) from hz.trans (if_pos (.inl hg')))
    clear hz hg hg'
    go_enter Try.func12, Try.ntmps12
    go_wp2_with fail
    refine HG.out.mono ?_
    rintro e w' ⟨rfl, rfl⟩
    go_wp2_with fail
    go_ret2
    exact ⟨by rw [HZ.out]; rfl, Below.refl _ _⟩
  rw [hg] at HG
  by_cases h1 : s < 0
  · have HZ := Lib.hid (show z = (0, 3) from hz.trans (if_pos (.inr (.inl h1))))
    clear hz hg
    go_enter Try.func12, Try.ntmps12
    go_wp2_with fail
    refine HG.out.mono ?_
    rintro e w' ⟨rfl, rfl⟩
    go_wp2_with fail
    go_ret2
    exact ⟨by rw [HZ.out]; rfl, Below.refl _ _⟩
  by_cases h2 : 1000000 < s
  · have HZ := Lib.hid (show z = (0, 3) from hz.trans (if_pos (.inr (.inr h2))))
    clear hz hg
    go_enter Try.func12, Try.ntmps12
    go_wp2_with fail
    refine HG.out.mono ?_
    rintro e w' ⟨rfl, rfl⟩
    go_wp2_with fail
    go_ret2
    exact ⟨by rw [HZ.out]; rfl, Below.refl _ _⟩
  have hz2 : z = if (feeE r (s + 113)).2 ≠ 0 then (0, (feeE r (s + 113)).2) else (max ((feeE r (s + 113)).1 - f) 113, 0) := hz.trans (if_neg (by rw [hg]; simp; omega))
  have hf := (goodA_iff f).1 hg
  have HF := Lib.hid (fun y => fee_any r (s + 113) y)
  have HL := Lib.hid (fun y => fee_any 1000 113 y)
  rw [show feeE 1000 113 = (113, 0) by decide] at HL
  clear hz hg
  rcases feeE_cases r (s + 113) with ⟨n, he, hn1, hn2, -, -⟩ | he
  · rw [he] at HF hz2
    have HZ := Lib.hid (show z = (max (n - f) 113, 0) from hz2)
    clear hz2 he
    go_enter Try.func12, Try.ntmps12
    go_wp2_with fail
    refine HG.out.mono ?_
    rintro e w' ⟨rfl, rfl⟩
    go_wp2_with fail
    refine (csize_any _).mono ?_
    rintro e w1 ⟨rfl, hb⟩
    have HB1 := Lib.hid hb
    clear hb
    go_wp2_with fail
    refine (HF.out _).mono ?_
    rintro e w' ⟨rfl, rfl⟩
    go_wp2_with fail
    refine (csize_any _).mono ?_
    rintro e w2 ⟨rfl, hb⟩
    have HB2 := Lib.hid (HB1.out.trans (hb.mono HB1.out.size))
    clear hb
    go_wp2_with fail
    refine (HL.out _).mono ?_
    rintro e w' ⟨rfl, rfl⟩
    go_wp2_with fail
    go_ret2
    exact ⟨by rw [HZ.out]; rfl, HB2.out⟩
  · rw [he] at HF hz2
    have HZ := Lib.hid (show z = (0, 3) from hz2)
    clear hz2 he
    go_enter Try.func12, Try.ntmps12
    go_wp2_with fail
    refine HG.out.mono ?_
    rintro e w' ⟨rfl, rfl⟩
    go_wp2_with fail
    refine (csize_any _).mono ?_
    rintro e w1 ⟨rfl, hb⟩
    have HB1 := Lib.hid hb
    clear hb
    go_wp2_with fail
    refine (HF.out _).mono ?_
    rintro e w' ⟨rfl, rfl⟩
    go_wp2_with fail
    go_ret2
    exact ⟨by rw [HZ.out]; rfl, HB1.out⟩
set_option maxRecDepth 100000 in
set_option maxHeartbeats 2000000 in
theorem rbid_any (r f s : Int) (w : World) : Calls Try.prog 13 #[.int .i64 r, .int .i64 f, .int .i64 s] w (PBs (bidE r f s) w) := by
  obtain ⟨z, hz⟩ : ∃ z, z = bidE r f s := ⟨_, rfl⟩
  rw [← hz]
  have HG := Lib.hid (rgood_any f w)
  by_cases hg : goodA f = true
  rotate_left
  · have hg' : goodA f = false := by simpa using hg
    rw [hg'] at HG
    have HZ := Lib.hid (show z = (0, 3) from hz.trans (if_pos (.inl hg')))
    clear hz hg hg'
    go_enter Try.func13, Try.ntmps13
    go_wp2_with fail
    refine HG.out.mono ?_
    rintro e w' ⟨rfl, rfl⟩
    go_wp2_with fail
    go_ret2
    exact ⟨by rw [HZ.out]; rfl, Below.refl _ _⟩
  rw [hg] at HG
  by_cases h1 : s < 0
  · have HZ := Lib.hid (show z = (0, 3) from hz.trans (if_pos (.inr (.inl h1))))
    clear hz hg
    go_enter Try.func13, Try.ntmps13
    go_wp2_with fail
    refine HG.out.mono ?_
    rintro e w' ⟨rfl, rfl⟩
    go_wp2_with fail
    go_ret2
    exact ⟨by rw [HZ.out]; rfl, Below.refl _ _⟩
  by_cases h2 : 1000000 < s
  · have HZ := Lib.hid (show z = (0, 3) from hz.trans (if_pos (.inr (.inr h2))))
    clear hz hg
    go_enter Try.func13, Try.ntmps13
    go_wp2_with fail
    refine HG.out.mono ?_
    rintro e w' ⟨rfl, rfl⟩
    go_wp2_with fail
    go_ret2
    exact ⟨by rw [HZ.out]; rfl, Below.refl _ _⟩
  have hz2 : z = if (feeE r (s + 113)).2 ≠ 0 then (0, (feeE r (s + 113)).2) else (max ((feeE r (s + 113)).1 - f) 113, 0) := hz.trans (if_neg (by rw [hg]; simp; omega))
  have hf := (goodA_iff f).1 hg
  have HF := Lib.hid (fun y => rfee_any r (s + 113) y)
  clear hz hg
  rcases feeE_cases r (s + 113) with ⟨n, he, hn1, hn2, -, -⟩ | he
  · rw [he] at HF hz2
    by_cases hm : n - f < 113
    · have HZ := Lib.hid (show z = (113, 0) by rw [hz2, if_neg (by simp)]; congr 1; omega)
      clear hz2 he
      go_enter Try.func13, Try.ntmps13
      go_wp2_with fail
      refine HG.out.mono ?_
      rintro e w' ⟨rfl, rfl⟩
      go_wp2_with fail
      refine (HF.out _).mono ?_
      rintro e w' ⟨rfl, rfl⟩
      go_wp2_with fail
      go_ret2
      exact ⟨by rw [HZ.out]; rfl, Below.refl _ _⟩
    · have HZ := Lib.hid (show z = (n - f, 0) by rw [hz2, if_neg (by simp)]; congr 1; omega)
      clear hz2 he
      go_enter Try.func13, Try.ntmps13
      go_wp2_with fail
      refine HG.out.mono ?_
      rintro e w' ⟨rfl, rfl⟩
      go_wp2_with fail
      refine (HF.out _).mono ?_
      rintro e w' ⟨rfl, rfl⟩
      go_wp2_with fail
      go_ret2
      exact ⟨by rw [HZ.out]; rfl, Below.refl _ _⟩
  · rw [he] at HF hz2
    have HZ := Lib.hid (show z = (0, 3) from hz2)
    clear hz2 he
    go_enter Try.func13, Try.ntmps13
    go_wp2_with fail
    refine HG.out.mono ?_
    rintro e w' ⟨rfl, rfl⟩
    go_wp2_with fail
    refine (HF.out _).mono ?_
    rintro e w' ⟨rfl, rfl⟩
    go_wp2_with fail
    go_ret2
    exact ⟨by rw [HZ.out]; rfl, Below.refl _ _⟩
end Go.Proofs.Ytmakghcoehkphaa
end
