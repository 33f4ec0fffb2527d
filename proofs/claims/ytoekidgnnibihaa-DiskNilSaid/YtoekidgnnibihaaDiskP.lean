/-
  DiskParts returns true for every input. Conditions: none.
-/
import Derived.Test.YtoekidgnnibihaaDiskW
import Derived.BigQuiet
import Derived.OpenShut
import Derived.Deep.QuietTactic
namespace Go.Proofs.Ytoekidgnnibihaa
open Go.RowKit

def Dj (F G : List Nat) : Prop := ∀ k ∈ F, k ∉ G
theorem Dj.symm {F G : List Nat} (h : Dj F G) : Dj G F := fun k hk hf => h k hf hk
theorem Dj.onto {w : World} {F F' G : List Nat} (h : Dj F G) (o : Onto w F F') (hg : ∀ k ∈ G, k < w.heap.size) : Dj F' G := fun k hk hm => (o k hk).elim (fun hf => h k hf hm) (fun hle => absurd (hg k hm) (by omega))

theorem wr_ok {d : Dk} (l : List UInt8) (h1 : d.down = false) (h2 : d.left = -1) (h3 : d.bytes.length + l.length ≤ 4000000) : d.wr l = (⟨d.bytes ++ l, false, -1⟩, 0) := by
  unfold Dk.wr
  rw [h1, if_neg (by simp), if_neg (by omega), if_neg (by omega), if_pos h2]

theorem cut100 (s : ByteArray) (n : Nat) : (s.extract 0 (min (s.size : Int) n).toNat).size ≤ n := by simp; omega

/-- What the disk's last acts come to. -/
theorem parts_end (x l1 l2 : List UInt8) (n : Nat) (hx : x.length ≤ 200) (h1 : l1.length ≤ 100) (h2 : l2.length ≤ 100) (hn : n ≤ 255) :
    ((Dk.cut ⟨x, false, -1⟩ (l1.length + n)).wr l1) = (⟨x ++ l1, false, n⟩, 0) ∧
    ((Dk.mk (x ++ l1) false n).wr l2).2 = (if l2.length ≤ n then 0 else 23) ∧
    ((((Dk.mk (x ++ l1) false n).wr l2).1.bytes.length : Int) = x.length + l1.length + min l2.length n) := by
  refine ⟨?_, ?_, ?_⟩
  · unfold Dk.wr Dk.cut
    simp only [Bool.false_eq_true, if_false]
    rw [if_neg (by omega), if_neg (by omega), if_neg (by omega)]
    congr 2
    omega
  · unfold Dk.wr
    simp only [Bool.false_eq_true, if_false, List.length_append]
    rw [if_neg (by omega)]
    by_cases h : l2.length ≤ n
    · rw [if_neg (by omega), if_pos h]
    · rw [if_pos (by omega), if_neg h]
  · unfold Dk.wr
    simp only [Bool.false_eq_true, if_false, List.length_append]
    rw [if_neg (by omega)]
    by_cases h : l2.length ≤ n
    · rw [if_neg (by omega)]; simp; omega
    · rw [if_pos (by omega)]; simp; omega

/-- One disk of the call's own, all of whose blocks are from B on; below B nothing has turned since w. -/
def One (B : Nat) (w wk : World) (a : Nat) (d : Dk) : Prop := ∃ F, Below B w wk ∧ DkAt wk F a d ∧ (∀ k ∈ F, B ≤ k) ∧ B ≤ wk.heap.size
/-- Two of them, apart. -/
def Two (B : Nat) (w wk : World) (a : Nat) (da : Dk) (b : Nat) (db : Dk) : Prop :=
  ∃ F G, Below B w wk ∧ DkAt wk F a da ∧ DkAt wk G b db ∧ (∀ k ∈ F, B ≤ k) ∧ (∀ k ∈ G, B ≤ k) ∧ Dj F G ∧ B ≤ wk.heap.size
theorem Two.swap {B : Nat} {w wk : World} {a b : Nat} {da db : Dk} (h : Two B w wk a da b db) : Two B w wk b db a da := by
  obtain ⟨F, G, h1, h2, h3, h4, h5, h6, h7⟩ := h
  exact ⟨G, F, h1, h3, h2, h5, h4, h6.symm, h7⟩
theorem Onto.from {w : World} {F F' : List Nat} {B : Nat} (o : Onto w F F') (hF : ∀ k ∈ F, B ≤ k) (hB : B ≤ w.heap.size) : ∀ k ∈ F', B ≤ k := fun k hk => (o k hk).elim (hF k) (Nat.le_trans hB)
theorem Two.call {P : Program} {B : Nat} {w wk : World} {a b : Nat} {da db d' : Dk} {f : FuncId} {args : Array Value} {v : Value} (h : Two B w wk a da b db)
    (c : ∀ F, DkAt wk F a da → Calls P f args wk (DkPost wk F a v d')) : Calls P f args wk fun e w' => e = .returned v ∧ Two B w w' a d' b db := by
  obtain ⟨F, G, h1, h2, h3, h4, h5, h6, h7⟩ := h
  refine (c F h2).mono fun e w' ⟨he, F', hd, ho, hf⟩ => ⟨he, F', G, h1.trans (hf.below h7 h4), hd, h3.frame hf h6.symm, ho.from h4 h7, h5, h6.onto ho h3.lt, Nat.le_trans h7 hf.size⟩
theorem Two.at {B : Nat} {w wk : World} {a b : Nat} {da db : Dk} (h : Two B w wk a da b db) : (∃ F, DkAt wk F a da) ∧ Below B w wk := by
  obtain ⟨F, G, h1, h2, h3, h4, h5, h6, h7⟩ := h
  exact ⟨⟨F, h2⟩, h1⟩
theorem Two.wakes {B : Nat} {w wk w' : World} {a b : Nat} {da db : Dk} (h : Two B w wk a da b db) (hb : Below wk.heap.size wk w') : Two B w w' a da b db := by
  obtain ⟨F, G, h1, h2, h3, h4, h5, h6, h7⟩ := h
  exact ⟨F, G, h1.trans (hb.mono h7), h2.kept fun k hk => hb.block k (h2.lt k hk), h3.kept fun k hk => hb.block k (h3.lt k hk), h4, h5, h6, Nat.le_trans h7 hb.size⟩
theorem Two.start {w w0 : World} {d : Dk} {F : List Nat} {a : Nat} (hb : Below w.heap.size w w0) (hd : DkAt w0 F a d) (hF : ∀ k ∈ F, w.heap.size ≤ k) :
    Two w.heap.size w (w0.alloc (.cells #[.slice none 0 0, .bool false, .int .i64 (-1)] 52)) a d w0.heap.size Dk.new := by
  refine ⟨F, [w0.heap.size], hb.alloc hb.size _, hd.frame (G := []) (Fr.alloc _ _ _) (by simp), new_at w0, hF, ?_, ?_, Nat.le_trans hb.size (by simp)⟩
  · intro k hk; rw [List.mem_singleton] at hk; rw [hk]; exact hb.size
  · intro k hk hm; rw [List.mem_singleton] at hm; have := hd.lt k hk; omega

set_option maxHeartbeats 1000000 in
theorem parts_any (s t : ByteArray) (n : Nat) (hn : n ≤ 255) (hs : s.size ≤ 9223372036854775807) (ht : t.size ≤ 9223372036854775807) (w : World) :
    Calls Try.prog 3 #[.string s, .string t, .int .u8 n] w fun e w' => e = .returned (.bool true) ∧ Below w.heap.size w w' := by
  have hcs := cut100 s 100
  have hct := cut100 t 100
  have HS := Lib.hid hcs
  have HT := Lib.hid hct
  clear hcs hct
  go_enter Try.func3, Try.ntmps3
  go_wp2_with fail
  go_quiet (fail)
  generalize s.extract 0 (min (s.size : Int) 100).toNat = s1 at *
  generalize t.extract 0 (min (t.size : Int) 100).toNat = t1 at *
  have hs1 : s1.size ≤ 100 := HS.out
  have ht1 : t1.size ≤ 100 := HT.out
  clear HS HT
  have hl1 : s1.data.toList.length ≤ 100 := by simpa using hs1
  have hl2 : t1.data.toList.length ≤ 100 := by simpa using ht1
  have e1 : Dk.new.wr s1.data.toList = (⟨s1.data.toList, false, -1⟩, 0) := wr_ok _ rfl rfl (by simp [Dk.new]; omega)
  have e2 : (Dk.mk s1.data.toList false (-1)).wr t1.data.toList = (⟨s1.data.toList ++ t1.data.toList, false, -1⟩, 0) := wr_ok _ rfl rfl (by simp; omega)
  have e3 : Dk.new.wr (s1 ++ t1).data.toList = (⟨s1.data.toList ++ t1.data.toList, false, -1⟩, 0) := by
    rw [show (s1 ++ t1).data.toList = s1.data.toList ++ t1.data.toList by simp]; exact wr_ok _ rfl rfl (by simp [Dk.new]; omega)
  obtain ⟨e4, e5, e6⟩ := parts_end (s1.data.toList ++ t1.data.toList) s1.data.toList t1.data.toList n (by simp; omega) hl1 hl2 hn
  have hz1 : s1.data.toList.length = s1.size := by simp
  have hz2 : t1.data.toList.length = t1.size := by simp
  rw [hz1] at e4
  rw [hz2] at e5
  rw [List.length_append, hz1, hz2] at e6
  clear hz1 hz2
  have E1 := Lib.hid e1
  have E2 := Lib.hid e2
  have E3 := Lib.hid e3
  have E4 := Lib.hid e4
  have E5 := Lib.hid e5
  have E6 := Lib.hid e6
  clear e1 e2 e3 e4 e5 e6 hl1 hl2
  have hb0 : Below w.heap.size w (w.drewN nq) := ⟨rfl, rfl, rfl, Nat.le_refl _, fun _ _ => rfl⟩
  generalize w.drewN nq = w0 at *
  go_wp2_with fail
  refine (new_any _).mono ?_
  rintro e w1 ⟨rfl, hw1⟩
  have hda := new_at w0
  have hb1 := hb0.alloc hb0.size (.cells #[.slice none 0 0, .bool false, .int .i64 (-1)] 52)
  rw [← hw1] at hda hb1
  clear hw1
  have hF : ∀ k ∈ [w0.heap.size], w.heap.size ≤ k := by intro k hk; rw [List.mem_singleton] at hk; rw [hk]; exact hb0.size
  clear hb0
  generalize w0.heap.size = A at *
  go_wp2_with fail
  refine (new_any _).mono ?_
  rintro e w2 ⟨rfl, hw2⟩
  have h2 := Two.start hb1 hda hF
  rw [← hw2] at h2
  clear hw2 hda hb1 hF
  generalize w1.heap.size = B at *
  go_wp2_with fail
  refine (h2.call (fun F hF => write_any _ F _ _ s1 hF (by omega))).mono ?_
  rintro e w3 ⟨rfl, h3⟩
  rw [E1.out] at h3 ⊢
  go_wp2_with fail
  refine (h3.call (fun F hF => write_any _ F _ _ t1 hF (by omega))).mono ?_
  rintro e w4 ⟨rfl, h4⟩
  rw [E2.out] at h4 ⊢
  go_wp2_with fail
  refine (h4.swap.call (fun F hF => write_any _ F _ _ (s1 ++ t1) hF (by simp; omega))).mono ?_
  rintro e w5 ⟨rfl, h5⟩
  rw [E3.out] at h5 ⊢
  go_wp2_with fail
  obtain ⟨⟨F, hF⟩, _⟩ := h5.swap.at
  refine (read_up _ F _ _ hF rfl).mono ?_
  rintro e w' ⟨rfl, rfl⟩
  go_wp2_with fail
  obtain ⟨⟨G, hG⟩, _⟩ := h5.at
  refine (read_up _ G _ _ hG rfl).mono ?_
  rintro e w' ⟨rfl, rfl⟩
  have hcat : s1 ++ t1 = ⟨(s1.data.toList ++ t1.data.toList).toArray⟩ := by apply ByteArray.ext; simp
  go_wp2_with fail
  refine (h5.swap.call (fun F hF => cut_any _ F _ _ _ hF (by omega))).mono ?_
  rintro e w6 ⟨rfl, h6⟩
  go_wp2_with fail
  refine (h6.call (fun F hF => write_any _ F _ _ s1 hF (by omega))).mono ?_
  rintro e w7 ⟨rfl, h7⟩
  rw [E4.out] at h7 ⊢
  go_wp2_with fail
  refine (h7.call (fun F hF => write_any _ F _ _ t1 hF (by omega))).mono ?_
  rintro e w8 ⟨rfl, h8⟩
  rw [E5.out]
  generalize hz : ((Dk.mk (s1.data.toList ++ t1.data.toList ++ s1.data.toList) false n).wr t1.data.toList).1 = dz at *
  have h6z := E6.out
  have HZ := Lib.hid h6z
  clear hF hG E1 E2 E3 E4 E5 E6 h2 h3 h4 h5 h6 h7 h6z hz
  by_cases hc : t1.size ≤ n
  all_goals
    first | rw [if_pos hc] | rw [if_neg hc]
    go_wp2_with fail
    refine (wakes_any _).mono ?_
    rintro e w9 ⟨rfl, h9⟩
    have h10 := h8.wakes h9
    obtain ⟨⟨F', hF'⟩, hB⟩ := h10.at
    have HB := Lib.hid hB
    obtain ⟨a, c, h40⟩ : ∃ a c, w9.cell? ⟨A, 0, none⟩ = some (.slice a dz.bytes.length c) := by
      obtain ⟨a, c, hF, hb, _⟩ := hF'
      exact ⟨a, c, cell_at hb⟩
    clear h8 h9 hF' hB h10
    go_wp2_with (go_at_call 12; refine (size_any _ _ _ _ _ h40).mono ?_; rintro e w' ⟨rfl, rfl⟩)
    go_ret
    exact ⟨ret_bool (by have := HZ.out; rw [beq_iff_eq]; omega), HB.out⟩

theorem diskParts_walk (s t : ByteArray) (n : Int) (w : World) (hs : s.size ≤ maxLen) (ht : t.size ≤ maxLen) (hn : (Lit.int .u8 n).wf = true) :
    Calls Try.prog 3 #[.string s, .string t, .int .u8 n] w fun e w' => e = .returned (.bool true) ∧ Below w.heap.size w w' := by
  have hb := bounds_u8 hn
  obtain ⟨m, rfl⟩ := Int.eq_ofNat_of_zero_le hb.1
  unfold maxLen at hs ht
  exact parts_any s t m (by omega) hs ht w

end Go.Proofs.Ytoekidgnnibihaa
