/-
  What each method of the disk does, as a plain function on a plain record. Conditions: the receiver is nil, or a disk of the call's own.
-/
import Derived.Test.YtoekidgnnibihaaBase
namespace Go.Proofs.Ytoekidgnnibihaa
open Go.RowKit

/-- A disk as plain data. -/
structure Dk where
  bytes : List UInt8
  down : Bool
  left : Int

namespace Dk
def new : Dk := ⟨[], false, -1⟩
def wr (d : Dk) (s : List UInt8) : Dk × Int :=
  if d.down then (d, 23)
  else if 4000000 < d.bytes.length + s.length then (d, 16)
  else if d.left ≠ -1 ∧ d.left < s.length then (⟨d.bytes ++ s.take d.left.toNat, true, -1⟩, 23)
  else (⟨d.bytes ++ s, false, if d.left = -1 then -1 else d.left - s.length⟩, 0)
def keep (d : Dk) (n : Int) : Dk × Int :=
  if d.down then (d, 23)
  else if n < 0 ∨ (d.bytes.length : Int) < n then (d, 2)
  else (⟨d.bytes.take n.toNat, d.down, d.left⟩, 0)
def cut (d : Dk) (n : Int) : Dk := ⟨d.bytes, d.down, max 0 n⟩
def restart (d : Dk) : Dk := ⟨d.bytes, false, -1⟩
end Dk

def bytesOf (l : List UInt8) : List Value := l.map fun b => Value.int .u8 b.toNat
theorem bytesOf_length (l : List UInt8) : (bytesOf l).length = l.length := by simp [bytesOf]
theorem bytesOf_append (l m : List UInt8) : bytesOf (l ++ m) = bytesOf l ++ bytesOf m := by simp [bytesOf]
theorem byteCells_eq (s : ByteArray) : byteCells s = bytesOf s.data.toList := rfl

/-- Block b of w is the disk d; its blocks are F. -/
def DkAt (w : World) (F : List Nat) (b : Nat) (d : Dk) : Prop :=
  ∃ a c, F = b :: (Value.slice a d.bytes.length c).ownBlock.toList ∧
    w.heap[b]? = some (.cells #[.slice a d.bytes.length c, .bool d.down, .int .i64 d.left] 52 (0, 0)) ∧
    w.ownsRow 0 5 1 (.slice a d.bytes.length c) d.bytes.length (bytesOf d.bytes) ∧
    (Value.slice a d.bytes.length c).ownBlock ≠ some b ∧ -1 ≤ d.left ∧ d.left ≤ 9223372036854775807 ∧ d.bytes.length ≤ 4000000

theorem heap_setCell_at {w : World} {b j : Nat} {cs : Array Value} {t : TypeId} {u : Value} (h : w.heap[b]? = some (.cells cs t (0, 0))) :
    (w.setCell ⟨b, j, none⟩ u).heap[b]? = some (.cells (cs.setIfInBounds j u) t (0, 0)) := by
  obtain ⟨hlt, hv⟩ := Array.getElem?_eq_some_iff.1 h
  unfold World.setCell
  rw [Array.getElem?_eq_getElem (by simpa using hlt), Array.getElem_modify]
  simp [hv]

theorem cell_at {w : World} {b j : Nat} {cs : Array Value} {t : TypeId} (h : w.heap[b]? = some (.cells cs t (0, 0))) : w.cell? ⟨b, j, none⟩ = cs[j]? := by
  simp [World.cell?, h]
theorem free_at {w : World} {b j : Nat} {cs : Array Value} {t : TypeId} (h : w.heap[b]? = some (.cells cs t (0, 0))) : w.frozen? ⟨b, j, none⟩ = false := by
  simp [World.frozen?, h]

theorem ownsRow_shape {w : World} {base e size n : Nat} {v : Value} {xs : List Value} (h : w.ownsRow base e size v n xs) : ∃ a c, v = .slice a n c ∧ n ≤ c ∧ c ≤ maxLen := by
  rcases h.2 with ⟨rfl, rfl⟩ | ⟨g, cap, cur, rfl, _, _, h1, h2, _⟩
  · exact ⟨_, _, rfl, Nat.le_refl _, by simp⟩
  · exact ⟨_, _, rfl, h1, h2⟩

/-- Other blocks may turn. -/
theorem DkAt.kept {w w' : World} {F : List Nat} {b : Nat} {d : Dk} (h : DkAt w F b d) (hk : ∀ k ∈ F, w'.heap[k]? = w.heap[k]?) : DkAt w' F b d := by
  obtain ⟨a, c, hF, hb, ho, rest⟩ := h
  refine ⟨a, c, hF, by rw [hk b (by simp [hF])]; exact hb, ownsRow_of_block ho (fun k e => hk k (by simp [hF, e])), rest⟩
theorem DkAt.lt {w : World} {F : List Nat} {b : Nat} {d : Dk} (h : DkAt w F b d) : ∀ k ∈ F, k < w.heap.size := by
  obtain ⟨a, c, hF, hb, ho, _⟩ := h
  intro k hk
  subst hF
  rcases List.mem_cons.1 hk with rfl | hk
  · exact (Array.getElem?_eq_some_iff.1 hb).1
  · exact (ho.lt k (by simpa using hk)).2
/-- Another disk's blocks are changed: this one's stand. -/
theorem DkAt.frame {w w' : World} {F G : List Nat} {b : Nat} {d : Dk} (h : DkAt w F b d) (hf : Fr G w w') (hd : ∀ k ∈ F, k ∉ G) : DkAt w' F b d :=
  h.kept fun k hk => hf.block k (h.lt k hk) (hd k hk)
theorem DkAt.len {w : World} {F : List Nat} {b : Nat} {d : Dk} (h : DkAt w F b d) : d.bytes.length ≤ 4000000 := by
  obtain ⟨_, _, _, _, _, _, _, _, h⟩ := h; exact h
theorem DkAt.self {w : World} {F : List Nat} {b : Nat} {d : Dk} (h : DkAt w F b d) : b ∈ F := by
  obtain ⟨_, _, rfl, _⟩ := h; simp

/-- What a call on a disk leaves. -/
def DkPost (w : World) (F : List Nat) (b : Nat) (v : Value) (d : Dk) (e : Ending) (w' : World) : Prop :=
  e = .returned v ∧ ∃ F', DkAt w' F' b d ∧ Onto w F F' ∧ Fr F w w'

theorem info_u8 : (Try.prog.info? 5).map (fun i => (i.zero, i.size, i.bytes)) = some (some (.int .u8 0), 1, 1) := by kernel_rfl

/-- Bytes of a string behind what a disk has. -/
theorem append_bytes {w : World} {a : Option Addr} {c n : Nat} {xs : List UInt8} (ho : w.ownsRow 0 5 1 (.slice a n c) n (bytesOf xs)) (s : ByteArray) (hs : n + s.size ≤ 4000000) (ty : TypeId) :
    ∃ a' c' w', (Builtin.append_ #[50, 9] ty #[.slice a n c, .string s]).run Try.prog w = .ok (.slice a' (n + s.size) c') w' ∧
      w'.ownsRow 0 5 1 (.slice a' (n + s.size) c') (n + s.size) (bytesOf (xs ++ s.data.toList)) ∧ w.grownBy w' (Value.slice a n c).ownBlock ∧
      ((Value.slice a' (n + s.size) c').ownBlock = (Value.slice a n c).ownBlock ∨ (Value.slice a' (n + s.size) c').ownBlock = some w.heap.size) := by
  obtain ⟨i, hi, h0, h1, h2⟩ := info_parts info_u8
  obtain ⟨v', w', hr, ho', hg, hn⟩ := append_own_src (P := Try.prog) w 0 50 9 ty 5 i _ 1 1 Try.underlying50 hi h0 h1 h2 rfl _ _ _ ho (.string s) s.size (byteCells s) (Src.ofString w Try.underlying9 s)
    (by unfold maxLen; omega) (by omega) (Nat.zero_le _)
  obtain ⟨a', c', rfl, _, _⟩ := ownsRow_shape ho'
  exact ⟨a', c', w', hr, by rw [bytesOf_append]; exact ho', hg, hn⟩

set_option maxHeartbeats 400000 in
theorem new_any (w : World) : Calls Try.prog 7 #[] w fun e w' => e = .returned (.pointer (some ⟨w.heap.size, 0, none⟩)) ∧ w' = w.alloc (.cells #[.slice none 0 0, .bool false, .int .i64 (-1)] 52) := by
  go_enter Try.func7, Try.ntmps7
  go_wp2
  go_ret
  exact ⟨rfl, rfl⟩

theorem new_at (w : World) : DkAt (w.alloc (.cells #[.slice none 0 0, .bool false, .int .i64 (-1)] 52)) [w.heap.size] w.heap.size Dk.new :=
  ⟨none, 0, rfl, heap_alloc_new w _, World.ownsRow_nil _ _ _ _, by simp [Value.ownBlock], by simp [Dk.new], by simp [Dk.new], by simp [Dk.new]⟩

set_option maxHeartbeats 400000 in
theorem write_nil (w : World) (s : ByteArray) : Calls Try.prog 8 #[.pointer none, .string s] w fun e w' => e = .returned (.int .i64 1) ∧ w = w' := by
  go_enter Try.func8, Try.ntmps8
  go_wp2
  go_ret
  exact ⟨rfl, rfl⟩

set_option maxHeartbeats 400000 in
theorem write_down (w : World) (b : Nat) (s : ByteArray) (h1 : w.cell? ⟨b, 1, none⟩ = some (.bool true)) :
    Calls Try.prog 8 #[.pointer (some ⟨b, 0, none⟩), .string s] w fun e w' => e = .returned (.int .i64 23) ∧ w = w' := by
  go_enter Try.func8, Try.ntmps8
  go_wp2
  go_ret
  exact ⟨rfl, rfl⟩

set_option maxHeartbeats 400000 in
theorem write_full (w : World) (b : Nat) (s : ByteArray) (a : Option Addr) (n c : Nat) (h1 : w.cell? ⟨b, 1, none⟩ = some (.bool false))
   (h0 : w.cell? ⟨b, 0, none⟩ = some (.slice a n c)) (hn : n ≤ 4000000) (hf : 4000000 < (n : Int) + s.size) :
    Calls Try.prog 8 #[.pointer (some ⟨b, 0, none⟩), .string s] w fun e w' => e = .returned (.int .i64 16) ∧ w = w' := by
  go_enter Try.func8, Try.ntmps8
  go_wp2
  go_ret
  exact ⟨rfl, rfl⟩

/-- Behind an append to what the disk has, and stores into its block. -/
theorem dk_grown {w w1 w' W : World} {F : List Nat} {b n m c c' : Nat} {a a' : Option Addr} {d' : Dk} (hF : F = b :: (Value.slice a n c).ownBlock.toList) (h01 : Fr F w w1) (hblt : b < w.heap.size) (hs1 : w1.heap.size = w.heap.size)
    (hnb : (Value.slice a n c).ownBlock ≠ some b) (hm : m = d'.bytes.length)
    (ho : w'.ownsRow 0 5 1 (.slice a' m c') m (bytesOf d'.bytes)) (hg : w1.grownBy w' (Value.slice a n c).ownBlock) (hn : (Value.slice a' m c').ownBlock = (Value.slice a n c).ownBlock ∨ (Value.slice a' m c').ownBlock = some w1.heap.size)
    (hW : W.heap[b]? = some (.cells #[.slice a' m c', .bool d'.down, .int .i64 d'.left] 52 (0, 0))) (hF' : Fr F w' W) (hFb : ∀ k, k ≠ b → W.heap[k]? = w'.heap[k]?)
    (h1 : -1 ≤ d'.left) (h2 : d'.left ≤ 9223372036854775807) (h3 : d'.bytes.length ≤ 4000000) : ∃ F', DkAt W F' b d' ∧ Onto w F F' ∧ Fr F w W := by
  subst hm
  have hnb' : (Value.slice a' d'.bytes.length c').ownBlock ≠ some b := by
    rcases hn with e | e
    · rw [e]; exact hnb
    · rw [e, hs1]; intro e'; cases e'; exact absurd hblt (Nat.lt_irrefl _)
  refine ⟨_, ⟨a', c', rfl, hW, ownsRow_of_block ho (fun k e => hFb k (fun e' => hnb' (by rw [e, e']))), hnb', h1, h2, h3⟩, ?_, ?_⟩
  · intro k hk
    rcases List.mem_cons.1 hk with rfl | hk
    · exact .inl (by simp [hF])
    · rcases hn with e | e
      · rw [e] at hk; exact .inl (by simp [hF, hk])
      · rw [e] at hk; simp only [Option.toList_some, List.mem_singleton] at hk; exact .inr (by omega)
  · exact (h01.trans (Onto.refl _ _) (Fr.of_grown hg (by intro k e; simp [hF, e]))).trans (Onto.refl _ _) hF'

set_option maxHeartbeats 400000 in
theorem write_cut (w : World) (F : List Nat) (b : Nat) (d : Dk) (s : ByteArray) (hd : DkAt w F b d) (hdn : d.down = false) (hf : d.bytes.length + s.size ≤ 4000000) (hl : d.left ≠ -1) (hls : d.left < s.size) :
    Calls Try.prog 8 #[.pointer (some ⟨b, 0, none⟩), .string s] w (DkPost w F b (.int .i64 23) ⟨d.bytes ++ s.data.toList.take d.left.toNat, true, -1⟩) := by
  obtain ⟨a, c, hF, hb, ho, hnb, hl1, hl2, hlen⟩ := hd
  rw [hdn] at hb
  obtain ⟨l, hlI⟩ := Int.eq_ofNat_of_zero_le (show 0 ≤ d.left by omega)
  obtain ⟨n, hn⟩ : ∃ n, n = d.bytes.length := ⟨_, rfl⟩
  have hbl := (Array.getElem?_eq_some_iff.1 hb).1
  rw [← hn] at hb ho hnb hF
  have h0 : w.drew.cell? ⟨b, 0, none⟩ = some (.slice a n c) := cell_at hb
  have h1 : w.cell? ⟨b, 1, none⟩ = some (.bool false) := cell_at hb
  have h2 : w.cell? ⟨b, 2, none⟩ = some (.int .i64 l) := by rw [← hlI]; exact cell_at hb
  have h0' : w.cell? ⟨b, 0, none⟩ = some (.slice a n c) := h0
  have h2' : w.drew.cell? ⟨b, 2, none⟩ = some (.int .i64 l) := h2
  have hll : (l : Int) < s.size := by omega
  have hlm : l ≤ 4000000 := by omega
  have hne : ((l : Int) == -1) = false := by simp
  have hle : n + s.size ≤ 4000000 := by omega
  have hle1 : n ≤ 4000000 := by omega
  have hsl : (s.extract 0 l).size = l := by simp; omega
  have hsd : (s.extract 0 l).data.toList = s.data.toList.take l := by simp
  obtain ⟨a', c', w', hrun0, hown, hgrow, hnew⟩ := append_bytes (w := w.drew) ho.drew (s.extract 0 l) (by omega) 50
  rw [hsl] at hrun0 hown hnew
  rw [hsd] at hown
  have hbw : w'.heap[b]? = w.heap[b]? := hgrow.block b hbl (fun e => hnb e.symm)
  rw [hb] at hbw
  have hW0 : w'.cell? ⟨b, 0, none⟩ = some (.slice a n c) := cell_at hbw
  have hW1 : w'.cell? ⟨b, 1, none⟩ = some (.bool false) := cell_at hbw
  have hW2 : w'.cell? ⟨b, 2, none⟩ = some (.int .i64 d.left) := cell_at hbw
  have hF0 : w'.frozen? ⟨b, 0, none⟩ = false := free_at hbw
  have hF1 : w'.frozen? ⟨b, 1, none⟩ = false := free_at hbw
  have hF2 : w'.frozen? ⟨b, 2, none⟩ = false := free_at hbw
  have hlN : l ≤ s.size := by omega
  have HR := Lib.hid hrun0
  have hfin : DkPost w F b (.int .i64 23) ⟨d.bytes ++ s.data.toList.take d.left.toNat, true, -1⟩ (.returned (.int .i64 23)) (((w'.setCell ⟨b, 0, none⟩ (.slice a' (n + l) c')).setCell ⟨b, 1, none⟩ (.bool true)).setCell ⟨b, 2, none⟩ (.int .i64 (-1))) := by
    refine ⟨rfl, dk_grown (m := n + l) (w1 := w.drew) (w' := w') (c' := c') (a' := a') hF (Fr.drew _ _) hbl rfl hnb ?_ ?_ hgrow hnew ?_ ?_ ?_ ?_ ?_ ?_⟩
    · simp; omega
    · simpa [hlI] using hown
    · rw [heap_setCell_at (heap_setCell_at (heap_setCell_at hbw))]; rfl
    · exact ((Fr.setCell _ _ _ (by simp [hF])).trans (Onto.refl _ _) (Fr.setCell _ _ _ (by simp [hF]))).trans (Onto.refl _ _) (Fr.setCell _ _ _ (by simp [hF]))
    · intro k hk; rw [Below.heap_setCell _ _ _ _ hk, Below.heap_setCell _ _ _ _ hk, Below.heap_setCell _ _ _ _ hk]
    · simp
    · simp
    · simp; omega
  have HF := Lib.hid hfin
  clear hfin hrun0 hown hgrow hnew hbw hn hsl ho hb hlI hF hdn hl hls hl1 hl2 hlen hf hnb hbl hsd
  go_enter Try.func8, Try.ntmps8
  go_wp2
  go_region_law (refine step_append_run rfl (.tmp 42) (.tmp 48) 50 9 rfl rfl rfl HR.out ?_)
  all_goals (go_wp2; go_ret; exact HF.out)

set_option maxHeartbeats 400000 in
theorem write_never (w : World) (F : List Nat) (b : Nat) (d : Dk) (s : ByteArray) (hd : DkAt w F b d) (hdn : d.down = false) (hf : d.bytes.length + s.size ≤ 4000000) (hl : d.left = -1) :
    Calls Try.prog 8 #[.pointer (some ⟨b, 0, none⟩), .string s] w (DkPost w F b (.int .i64 0) ⟨d.bytes ++ s.data.toList, false, -1⟩) := by
  obtain ⟨a, c, hF, hb, ho, hnb, hl1, hl2, hlen⟩ := hd
  rw [hdn, hl] at hb
  obtain ⟨n, hn⟩ : ∃ n, n = d.bytes.length := ⟨_, rfl⟩
  have hbl := (Array.getElem?_eq_some_iff.1 hb).1
  rw [← hn] at hb ho hnb hF
  have h0 : w.cell? ⟨b, 0, none⟩ = some (.slice a n c) := cell_at hb
  have h1 : w.cell? ⟨b, 1, none⟩ = some (.bool false) := cell_at hb
  have h2 : w.cell? ⟨b, 2, none⟩ = some (.int .i64 (-1)) := cell_at hb
  have hle : n + s.size ≤ 4000000 := by omega
  have hle1 : n ≤ 4000000 := by omega
  obtain ⟨a', c', w', hrun0, hown, hgrow, hnew⟩ := append_bytes (w := w) ho s (by omega) 50
  have hbw : w'.heap[b]? = w.heap[b]? := hgrow.block b hbl (fun e => hnb e.symm)
  rw [hb] at hbw
  have hW0 : w'.cell? ⟨b, 0, none⟩ = some (.slice a n c) := cell_at hbw
  have hF0 : w'.frozen? ⟨b, 0, none⟩ = false := free_at hbw
  have HR := Lib.hid hrun0
  have hfin : DkPost w F b (.int .i64 0) ⟨d.bytes ++ s.data.toList, false, -1⟩ (.returned (.int .i64 0)) (w'.setCell ⟨b, 0, none⟩ (.slice a' (n + s.size) c')) := by
    refine ⟨rfl, dk_grown (m := n + s.size) (w1 := w) (w' := w') (c' := c') (a' := a') hF (Fr.refl _ _) hbl rfl hnb ?_ hown hgrow hnew ?_ ?_ ?_ ?_ ?_ ?_⟩
    · simp; omega
    · rw [heap_setCell_at hbw]; rfl
    · exact Fr.setCell _ _ _ (by simp [hF])
    · intro k hk; rw [Below.heap_setCell _ _ _ _ hk]
    · simp
    · simp
    · simp; omega
  have HF := Lib.hid hfin
  clear hfin hrun0 hown hgrow hnew hbw hn ho hb hF hdn hl hl1 hl2 hlen hf hnb hbl
  go_enter Try.func8, Try.ntmps8
  go_wp2_with (at_builtin; refine wpList_append_run rfl (.tmp 76) (.tmp 77) 50 9 rfl rfl rfl HR.out ?_)
  go_ret
  exact HF.out

set_option maxHeartbeats 400000 in
theorem write_left (w : World) (F : List Nat) (b : Nat) (d : Dk) (s : ByteArray) (hd : DkAt w F b d) (hdn : d.down = false) (hf : d.bytes.length + s.size ≤ 4000000) (hl : d.left ≠ -1) (hls : ¬ d.left < s.size) :
    Calls Try.prog 8 #[.pointer (some ⟨b, 0, none⟩), .string s] w (DkPost w F b (.int .i64 0) ⟨d.bytes ++ s.data.toList, false, d.left - s.size⟩) := by
  obtain ⟨a, c, hF, hb, ho, hnb, hl1, hl2, hlen⟩ := hd
  rw [hdn] at hb
  obtain ⟨l, hlI⟩ := Int.eq_ofNat_of_zero_le (show 0 ≤ d.left by omega)
  obtain ⟨n, hn⟩ : ∃ n, n = d.bytes.length := ⟨_, rfl⟩
  have hbl := (Array.getElem?_eq_some_iff.1 hb).1
  rw [← hn] at hb ho hnb hF
  have h0 : w.cell? ⟨b, 0, none⟩ = some (.slice a n c) := cell_at hb
  have h1 : w.cell? ⟨b, 1, none⟩ = some (.bool false) := cell_at hb
  have h2 : w.cell? ⟨b, 2, none⟩ = some (.int .i64 l) := by rw [← hlI]; exact cell_at hb
  have hB2 : w.frozen? ⟨b, 2, none⟩ = false := free_at hb
  have hll : ¬ (l : Int) < s.size := by omega
  have hll2 : (s.size : Int) ≤ l := by omega
  have hlm : (l : Int) ≤ 9223372036854775807 := by omega
  have hne : ((l : Int) == -1) = false := by simp
  have hle : n + s.size ≤ 4000000 := by omega
  have hle1 : n ≤ 4000000 := by omega
  have hb1 := heap_setCell_at (j := 2) (u := .int .i64 ((l : Int) - s.size)) hb
  obtain ⟨a', c', w', hrun0, hown, hgrow, hnew⟩ := append_bytes (w := w.setCell ⟨b, 2, none⟩ (.int .i64 ((l : Int) - s.size))) (ownsRow_of_block ho (fun k e => Below.heap_setCell _ _ _ _ (fun e' => hnb (by rw [e, e'])))) s (by omega) 50
  have hbw : w'.heap[b]? = _ := (hgrow.block b (by simpa [World.setCell] using hbl) (fun e => hnb e.symm)).trans hb1
  have hW0 : w'.cell? ⟨b, 0, none⟩ = some (.slice a n c) := cell_at hbw
  have hF0 : w'.frozen? ⟨b, 0, none⟩ = false := free_at hbw
  have HR := Lib.hid hrun0
  have hfin : DkPost w F b (.int .i64 0) ⟨d.bytes ++ s.data.toList, false, d.left - s.size⟩ (.returned (.int .i64 0)) (w'.setCell ⟨b, 0, none⟩ (.slice a' (n + s.size) c')) := by
    refine ⟨rfl, dk_grown (m := n + s.size) (w1 := w.setCell ⟨b, 2, none⟩ (.int .i64 ((l : Int) - s.size))) (w' := w') (c' := c') (a' := a') hF (Fr.setCell _ _ _ (by simp [hF])) hbl (by simp [World.setCell]) hnb ?_ hown hgrow hnew ?_ ?_ ?_ ?_ ?_ ?_⟩
    · simp; omega
    · rw [heap_setCell_at hbw, hlI]; rfl
    · exact Fr.setCell _ _ _ (by simp [hF])
    · intro k hk; rw [Below.heap_setCell _ _ _ _ hk]
    · simp; omega
    · simp; omega
    · simp; omega
  have HF := Lib.hid hfin
  clear hfin hrun0 hown hgrow hnew hbw hn ho hb hF hdn hl hl1 hl2 hlen hf hnb hbl hlI hb1 hls
  go_enter Try.func8, Try.ntmps8
  go_wp2_with (at_builtin; refine wpList_append_run rfl (.tmp 76) (.tmp 77) 50 9 rfl rfl rfl HR.out ?_)
  go_ret
  exact HF.out

/-- Write, whole. -/
theorem write_any (w : World) (F : List Nat) (b : Nat) (d : Dk) (s : ByteArray) (hd : DkAt w F b d) (hs : s.size ≤ 9223372036854775807) :
    Calls Try.prog 8 #[.pointer (some ⟨b, 0, none⟩), .string s] w (DkPost w F b (.int .i64 (d.wr s.data.toList).2) (d.wr s.data.toList).1) := by
  have hsz : s.data.toList.length = s.size := by simp
  have hd' := hd
  obtain ⟨a, c, hF, hb, ho, hnb, hl1, hl2, hlen⟩ := hd'
  unfold Dk.wr
  rw [hsz]
  split
  · rename_i h
    rw [h] at hb
    exact (write_down w b s (cell_at hb)).mono fun e w' ⟨h1, h2⟩ => ⟨h1, F, h2 ▸ hd, Onto.refl _ _, h2 ▸ Fr.refl _ _⟩
  rename_i hdn
  have hdn : d.down = false := by simpa using hdn
  split
  · rw [hdn] at hb
    exact (write_full w b s a d.bytes.length c (cell_at hb) (cell_at hb) hlen (by omega)).mono fun e w' ⟨h1, h2⟩ => ⟨h1, F, h2 ▸ hd, Onto.refl _ _, h2 ▸ Fr.refl _ _⟩
  split
  · rename_i h1 h2
    exact write_cut w F b d s hd hdn (by omega) h2.1 h2.2
  · rename_i h1 h2
    by_cases hl : d.left = -1
    · rw [if_pos hl]; exact write_never w F b d s hd hdn (by omega) hl
    · rw [if_neg hl]; exact write_left w F b d s hd hdn (by omega) hl (fun h => h2 ⟨hl, h⟩)

set_option maxHeartbeats 400000 in
theorem ready_nil (w : World) : Calls Try.prog 22 #[.pointer none] w fun e w' => e = .returned (.int .i64 1) ∧ w = w' := by
  go_enter Try.func22, Try.ntmps22
  go_wp2
  go_ret
  exact ⟨rfl, rfl⟩

set_option maxHeartbeats 400000 in
theorem ready_up (w : World) (b : Nat) (h1 : w.cell? ⟨b, 1, none⟩ = some (.bool false)) : Calls Try.prog 22 #[.pointer (some ⟨b, 0, none⟩)] w fun e w' => e = .returned (.int .i64 0) ∧ w = w' := by
  go_enter Try.func22, Try.ntmps22
  go_wp2
  go_ret
  exact ⟨rfl, rfl⟩

set_option maxHeartbeats 400000 in
theorem ready_down (w : World) (b : Nat) (h1 : w.cell? ⟨b, 1, none⟩ = some (.bool true)) : Calls Try.prog 22 #[.pointer (some ⟨b, 0, none⟩)] w fun e w' => e = .returned (.int .i64 23) ∧ w = w' := by
  go_enter Try.func22, Try.ntmps22
  go_wp2
  go_ret
  exact ⟨rfl, rfl⟩

set_option maxHeartbeats 400000 in
theorem read_nil (w : World) : Calls Try.prog 9 #[.pointer none] w fun e w' => e = .returned (.tuple #[.string ByteArray.empty, .int .i64 1]) ∧ w = w' := by
  go_enter Try.func9, Try.ntmps9
  go_wp2_with (go_at_call 22; refine (ready_nil _).mono ?_; rintro e w' ⟨rfl, rfl⟩)
  go_ret2
  exact ⟨rfl, rfl⟩

set_option maxHeartbeats 400000 in
theorem read_down (w : World) (b : Nat) (h1 : w.cell? ⟨b, 1, none⟩ = some (.bool true)) : Calls Try.prog 9 #[.pointer (some ⟨b, 0, none⟩)] w fun e w' => e = .returned (.tuple #[.string ByteArray.empty, .int .i64 23]) ∧ w = w' := by
  go_enter Try.func9, Try.ntmps9
  go_wp2_with (go_at_call 22; refine (ready_down _ _ h1).mono ?_; rintro e w' ⟨rfl, rfl⟩)
  go_ret2
  exact ⟨rfl, rfl⟩

/-- A row of bytes, as a string. -/
theorem convert_bytes {w : World} {a : Option Addr} {c n : Nat} {xs : List UInt8} (ho : w.ownsRow 0 5 1 (.slice a n c) n (bytesOf xs)) :
    (convert 50 9 (.slice a n c)).run Try.prog w = .ok (.string ⟨xs.toArray⟩) w := by
  have hl : xs.length = n := by have := ho.1; simpa [bytesOf] using this
  rcases ho.2 with ⟨h, h0⟩ | ⟨g, cap, cur, h, _, _, _, _, _, _⟩
  · obtain ⟨rfl, rfl, rfl⟩ : a = none ∧ n = 0 ∧ c = 0 := by simpa using h
    obtain rfl : xs = [] := List.eq_nil_of_length_eq_zero hl
    exact run_convert_bytes_nil w _ _ Try.underlying50 Try.underlying5 _ _ _ Try.underlying9
  · obtain ⟨rfl, rfl⟩ : a = some ⟨g, 0, none⟩ ∧ c = cap := by simpa using h
    have hc : ∀ i, i < n → w.cell? ⟨g, 0 + i, none⟩ = some (.int .u8 ((xs.map fun b => (b.toNat : Int)).getD i 0)) := by
      intro i hi
      have hi' : i < xs.length := by omega
      have h1 := ho.cells (g := g) rfl i (.int .u8 (xs[i].toNat)) (by simp [bytesOf, hi'])
      rw [Addr.add_lit] at h1
      rw [h1]
      simp [List.getD, hi']
    rw [run_convert_bytes_arg w _ _ Try.underlying50 Try.underlying5 g 0 n c (xs.map fun b => (b.toNat : Int)) (by simpa using hl) hc _ Try.underlying9]
    congr 2
    apply ByteArray.ext
    have hid : ((fun n : Int => UInt8.ofNat n.toNat) ∘ fun b : UInt8 => (b.toNat : Int)) = id := by funext b; simp
    simp [strOfNums, hid]

set_option maxHeartbeats 400000 in
theorem read_up (w : World) (F : List Nat) (b : Nat) (d : Dk) (hd : DkAt w F b d) (hdn : d.down = false) :
    Calls Try.prog 9 #[.pointer (some ⟨b, 0, none⟩)] w fun e w' => e = .returned (.tuple #[.string ⟨d.bytes.toArray⟩, .int .i64 0]) ∧ w = w' := by
  obtain ⟨a, c, hF, hb, ho, hnb, hl1, hl2, hlen⟩ := hd
  rw [hdn] at hb
  have hconv := convert_bytes ho
  obtain ⟨n, hn⟩ : ∃ n, n = d.bytes.length := ⟨_, rfl⟩
  rw [← hn] at hb ho hnb hF hconv
  have h0 : w.cell? ⟨b, 0, none⟩ = some (.slice a n c) := cell_at hb
  have h1 : w.cell? ⟨b, 1, none⟩ = some (.bool false) := cell_at hb
  clear hn ho hb hF hdn hl1 hl2 hlen hnb
  go_enter Try.func9, Try.ntmps9
  go_wp2_with (go_at_call 22; refine (ready_up _ _ h1).mono ?_; rintro e w' ⟨rfl, rfl⟩)
  go_ret2
  exact ⟨rfl, rfl⟩

set_option maxHeartbeats 400000 in
theorem down_nil (w : World) : Calls Try.prog 13 #[.pointer none] w fun e w' => e = .returned (.bool false) ∧ w = w' := by
  go_enter Try.func13, Try.ntmps13
  go_wp2
  go_ret
  exact ⟨rfl, rfl⟩

set_option maxHeartbeats 400000 in
theorem down_any (w : World) (b : Nat) (x : Bool) (h1 : w.cell? ⟨b, 1, none⟩ = some (.bool x)) : Calls Try.prog 13 #[.pointer (some ⟨b, 0, none⟩)] w fun e w' => e = .returned (.bool x) ∧ w = w' := by
  go_enter Try.func13, Try.ntmps13
  go_wp2
  go_ret
  exact ⟨rfl, rfl⟩

set_option maxHeartbeats 400000 in
theorem size_nil (w : World) : Calls Try.prog 12 #[.pointer none] w fun e w' => e = .returned (.int .i64 0) ∧ w = w' := by
  go_enter Try.func12, Try.ntmps12
  go_wp2
  go_ret
  exact ⟨rfl, rfl⟩

set_option maxHeartbeats 400000 in
theorem size_any (w : World) (b : Nat) (a : Option Addr) (n c : Nat) (h1 : w.cell? ⟨b, 0, none⟩ = some (.slice a n c)) : Calls Try.prog 12 #[.pointer (some ⟨b, 0, none⟩)] w fun e w' => e = .returned (.int .i64 n) ∧ w = w' := by
  go_enter Try.func12, Try.ntmps12
  go_wp2
  go_ret
  exact ⟨rfl, rfl⟩

set_option maxHeartbeats 400000 in
theorem cut_nil (w : World) (n : Int) : Calls Try.prog 10 #[.pointer none, .int .i64 n] w fun e w' => e = .returned (.tuple #[]) ∧ w = w' := by
  go_enter Try.func10, Try.ntmps10
  go_wp2
  go_end0
  exact ⟨rfl, rfl⟩

/-- A store of the two last cells alone. -/
theorem dk_cells {w W : World} {F : List Nat} {b : Nat} {d : Dk} (hd : DkAt w F b d) (dn : Bool) (l : Int) (h1 : -1 ≤ l) (h2 : l ≤ 9223372036854775807)
    (hW : ∀ a c, w.heap[b]? = some (.cells #[.slice a d.bytes.length c, .bool d.down, .int .i64 d.left] 52 (0, 0)) → W.heap[b]? = some (.cells #[.slice a d.bytes.length c, .bool dn, .int .i64 l] 52 (0, 0)))
    (hF' : Fr F w W) (hFb : ∀ k, k ≠ b → W.heap[k]? = w.heap[k]?) : ∃ F', DkAt W F' b ⟨d.bytes, dn, l⟩ ∧ Onto w F F' ∧ Fr F w W := by
  obtain ⟨a, c, hF, hb, ho, hnb, hl1, hl2, hlen⟩ := hd
  exact ⟨F, ⟨a, c, hF, hW a c hb, ownsRow_of_block ho (fun k e => hFb k (fun e' => hnb (by rw [e, e']))), hnb, h1, h2, hlen⟩, Onto.refl _ _, hF'⟩

set_option maxHeartbeats 400000 in
theorem cut_any (w : World) (F : List Nat) (b : Nat) (d : Dk) (n : Int) (hd : DkAt w F b d) (hn : n ≤ 9223372036854775807) :
    Calls Try.prog 10 #[.pointer (some ⟨b, 0, none⟩), .int .i64 n] w (DkPost w F b (.tuple #[]) (d.cut n)) := by
  have hfin : DkPost w F b (.tuple #[]) (d.cut n) (.returned (.tuple #[])) (w.setCell ⟨b, 2, none⟩ (.int .i64 (max 0 n))) := by
    refine ⟨rfl, dk_cells hd d.down (max 0 n) (by omega) (by omega) (fun a c h => ?_) (Fr.setCell _ _ _ hd.self) (fun k hk => Below.heap_setCell _ _ _ _ hk)⟩
    rw [heap_setCell_at h]; rfl
  have HF := Lib.hid hfin
  obtain ⟨a, c, hF, hb, ho, hnb, hl1, hl2, hlen⟩ := hd
  have h2 : w.cell? ⟨b, 2, none⟩ = some (.int .i64 d.left) := cell_at hb
  have hf2 : w.frozen? ⟨b, 2, none⟩ = false := free_at hb
  clear hfin hb ho hnb hl1 hl2 hlen hF
  go_enter Try.func10, Try.ntmps10
  go_wp2
  go_end0
  exact HF.out

set_option maxHeartbeats 400000 in
theorem restart_nil (w : World) : Calls Try.prog 14 #[.pointer none] w fun e w' => e = .returned (.tuple #[]) ∧ w = w' := by
  go_enter Try.func14, Try.ntmps14
  go_wp2
  go_end0
  exact ⟨rfl, rfl⟩

set_option maxHeartbeats 400000 in
theorem restart_any (w : World) (F : List Nat) (b : Nat) (d : Dk) (hd : DkAt w F b d) :
    Calls Try.prog 14 #[.pointer (some ⟨b, 0, none⟩)] w (DkPost w F b (.tuple #[]) d.restart) := by
  have hfin : DkPost w F b (.tuple #[]) d.restart (.returned (.tuple #[])) ((w.setCell ⟨b, 1, none⟩ (.bool false)).setCell ⟨b, 2, none⟩ (.int .i64 (-1))) := by
    refine ⟨rfl, dk_cells hd false (-1) (by omega) (by omega) (fun a c h => ?_) ((Fr.setCell _ _ _ hd.self).trans (Onto.refl _ _) (Fr.setCell _ _ _ hd.self)) (fun k hk => by rw [Below.heap_setCell _ _ _ _ hk, Below.heap_setCell _ _ _ _ hk])⟩
    rw [heap_setCell_at (heap_setCell_at h)]; rfl
  have HF := Lib.hid hfin
  obtain ⟨a, c, hF, hb, ho, hnb, hl1, hl2, hlen⟩ := hd
  have h1 : w.cell? ⟨b, 1, none⟩ = some (.bool d.down) := cell_at hb
  have h2 : w.cell? ⟨b, 2, none⟩ = some (.int .i64 d.left) := cell_at hb
  have hf1 : w.frozen? ⟨b, 1, none⟩ = false := free_at hb
  have hf2 : w.frozen? ⟨b, 2, none⟩ = false := free_at hb
  clear hfin hb ho hnb hl1 hl2 hlen hF
  go_enter Try.func14, Try.ntmps14
  go_wp2
  go_end0
  exact HF.out

set_option maxHeartbeats 400000 in
theorem keep_nil (w : World) (n : Int) : Calls Try.prog 16 #[.pointer none, .int .i64 n] w fun e w' => e = .returned (.int .i64 1) ∧ w = w' := by
  go_enter Try.func16, Try.ntmps16
  go_wp2_with (go_at_call 22; refine (ready_nil _).mono ?_; rintro e w' ⟨rfl, rfl⟩)
  go_ret
  exact ⟨rfl, rfl⟩

set_option maxHeartbeats 400000 in
theorem keep_down (w : World) (b : Nat) (n : Int) (h1 : w.cell? ⟨b, 1, none⟩ = some (.bool true)) : Calls Try.prog 16 #[.pointer (some ⟨b, 0, none⟩), .int .i64 n] w fun e w' => e = .returned (.int .i64 23) ∧ w = w' := by
  go_enter Try.func16, Try.ntmps16
  go_wp2_with (go_at_call 22; refine (ready_down _ _ h1).mono ?_; rintro e w' ⟨rfl, rfl⟩)
  go_ret
  exact ⟨rfl, rfl⟩

set_option maxHeartbeats 400000 in
theorem keep_arg (w : World) (b : Nat) (n : Int) (a : Option Addr) (m c : Nat) (h0 : w.cell? ⟨b, 0, none⟩ = some (.slice a m c)) (h1 : w.cell? ⟨b, 1, none⟩ = some (.bool false)) (hn : n < 0 ∨ (m : Int) < n) :
    Calls Try.prog 16 #[.pointer (some ⟨b, 0, none⟩), .int .i64 n] w fun e w' => e = .returned (.int .i64 2) ∧ w = w' := by
  go_enter Try.func16, Try.ntmps16
  by_cases hc : n < 0
  · go_wp2_with (go_at_call 22; refine (ready_up _ _ h1).mono ?_; rintro e w' ⟨rfl, rfl⟩)
    go_ret
    exact ⟨rfl, rfl⟩
  · have hc' : (m : Int) < n := by omega
    clear hn
    go_wp2_with (go_at_call 22; refine (ready_up _ _ h1).mono ?_; rintro e w' ⟨rfl, rfl⟩)
    go_ret
    exact ⟨rfl, rfl⟩

theorem ownsRow_cut {w : World} {base e n m c : Nat} {a : Option Addr} {xs : List Value} (h : w.ownsRow base e 1 (.slice a n c) n xs) (hm : m ≤ n) : w.ownsRow base e 1 (.slice a m c) m (xs.take m) := by
  have hl := h.1
  refine ⟨by rw [List.length_take]; omega, ?_⟩
  rcases h.2 with ⟨h1, h2⟩ | ⟨g, cap, cur, h1, hb, hg, h2, h3, h4, h5⟩
  · obtain ⟨rfl, rfl, rfl⟩ : a = none ∧ n = 0 ∧ c = 0 := by simpa using h1
    obtain rfl : m = 0 := by omega
    exact .inl ⟨rfl, rfl⟩
  · obtain ⟨rfl, rfl⟩ : a = some ⟨g, 0, none⟩ ∧ c = cap := by simpa using h1
    refine .inr ⟨g, c, cur, rfl, hb, hg, by omega, h3, h4, ?_⟩
    rw [← h5, List.take_take]
    congr 1
    omega

set_option maxHeartbeats 400000 in
theorem keep_ok (w : World) (F : List Nat) (b : Nat) (d : Dk) (m : Nat) (hd : DkAt w F b d) (hdn : d.down = false) (hm : m ≤ d.bytes.length) :
    Calls Try.prog 16 #[.pointer (some ⟨b, 0, none⟩), .int .i64 m] w (DkPost w F b (.int .i64 0) ⟨d.bytes.take m, d.down, d.left⟩) := by
  obtain ⟨a, c, hF, hb, ho, hnb, hl1, hl2, hlen⟩ := hd
  have hfin : DkPost w F b (.int .i64 0) ⟨d.bytes.take m, d.down, d.left⟩ (.returned (.int .i64 0)) (w.setCell ⟨b, 0, none⟩ (.slice a m c)) := by
    have ho2 := ownsRow_cut ho hm
    have hlt : (d.bytes.take m).length = m := by rw [List.length_take]; omega
    refine ⟨rfl, F, ⟨a, c, ?_, ?_, ?_, ?_, hl1, hl2, ?_⟩, Onto.refl _ _, Fr.setCell _ _ _ (by simp [hF])⟩
    · rw [hF]; cases a <;> rfl
    · rw [heap_setCell_at hb, hlt]; rfl
    · refine ownsRow_of_block (w := w) ?_ (fun k e => Below.heap_setCell _ _ _ _ (fun e' => hnb ?_))
      · simp only [hlt]; simpa [bytesOf, List.map_take] using ho2
      · cases a with
        | none => cases e
        | some a' => simp only [Value.ownBlock] at e ⊢; rw [e, e']
    · cases a with
      | none => simp [Value.ownBlock]
      | some a' => exact hnb
    · simp only [hlt]; omega
  have HF := Lib.hid hfin
  rw [hdn] at hb
  obtain ⟨n, hn⟩ : ∃ n, n = d.bytes.length := ⟨_, rfl⟩
  rw [← hn] at hb hm hlen
  have h0 : w.cell? ⟨b, 0, none⟩ = some (.slice a n c) := cell_at hb
  have h1 : w.cell? ⟨b, 1, none⟩ = some (.bool false) := cell_at hb
  have hf0 : w.frozen? ⟨b, 0, none⟩ = false := free_at hb
  obtain ⟨a0, c0, hs, hnc, hcm⟩ := ownsRow_shape ho
  obtain ⟨rfl, rfl⟩ : a = a0 ∧ c = c0 := by simpa using hs
  rw [← hn] at hnc
  unfold maxLen at hcm
  clear hfin hb ho hnb hl1 hl2 hF hs hdn hn
  go_enter Try.func16, Try.ntmps16
  go_wp2_with (go_at_call 22; refine (ready_up _ _ h1).mono ?_; rintro e w' ⟨rfl, rfl⟩)
  go_ret
  exact HF.out

theorem keep_any (w : World) (F : List Nat) (b : Nat) (d : Dk) (n : Int) (hd : DkAt w F b d) :
    Calls Try.prog 16 #[.pointer (some ⟨b, 0, none⟩), .int .i64 n] w (DkPost w F b (.int .i64 (d.keep n).2) (d.keep n).1) := by
  have hd' := hd
  obtain ⟨a, c, hF, hb, ho, hnb, hl1, hl2, hlen⟩ := hd'
  unfold Dk.keep
  split
  · rename_i h
    rw [h] at hb
    exact (keep_down w b n (cell_at hb)).mono fun e w' ⟨h1, h2⟩ => ⟨h1, F, h2 ▸ hd, Onto.refl _ _, h2 ▸ Fr.refl _ _⟩
  rename_i hdn
  have hdn : d.down = false := by simpa using hdn
  split
  · rename_i h
    rw [hdn] at hb
    exact (keep_arg w b n a d.bytes.length c (cell_at hb) (cell_at hb) h).mono fun e w' ⟨h1, h2⟩ => ⟨h1, F, h2 ▸ hd, Onto.refl _ _, h2 ▸ Fr.refl _ _⟩
  · rename_i h
    obtain ⟨m, rfl⟩ := Int.eq_ofNat_of_zero_le (show 0 ≤ n by omega)
    rw [Int.toNat_natCast]
    exact keep_ok w F b d m hd hdn (by omega)

end Go.Proofs.Ytoekidgnnibihaa
