/-
  The document's disk answers as the plain disk does. Conditions: a disk's number of bytes up to a failure is at least -1.
-/
import Derived.Test.YtoekidgnnibihaaDiskL
namespace Go.Proofs.Ytoekidgnnibihaa
open Go.RowKit
set_option linter.unusedVariables false

/-- The document's disk: bytes, down, known, left. -/
def rd (S : ByteArray) (dn kn : Bool) (l : Int) : Value := .agg #[.string S, .bool dn, .bool kn, .int .i64 l]

theorem two_alloc (w : World) (o p : Obj) : Below w.heap.size w ((w.alloc o).alloc p) := ((Below.refl _ _).alloc (Nat.le_refl _) o).alloc (by simp) p

set_option maxHeartbeats 400000 in
theorem rcut_any (S : ByteArray) (dn kn : Bool) (l n : Int) (w : World) :
    Calls Try.prog 18 #[rd S dn kn l, .int .i64 n] w fun e w' => e = .returned (rd S dn true (max 0 n)) ∧ Below w.heap.size w w' := by
  by_cases h : n < 0
  · rw [show max 0 n = 0 by omega]
    unfold rd
    go_enter Try.func18, Try.ntmps18
    go_wp2
    exact bodyPost_ret (v := rd S dn true 0) (by simp [results, Try.results18, go_sem, rd]) rfl ⟨rfl, two_alloc _ _ _⟩
  · rw [show max 0 n = n by omega]
    unfold rd
    go_enter Try.func18, Try.ntmps18
    go_wp2
    exact bodyPost_ret (v := rd S dn true n) (by simp [results, Try.results18, go_sem, rd]) rfl ⟨rfl, two_alloc _ _ _⟩

set_option maxHeartbeats 400000 in
theorem rrestart_any (S : ByteArray) (dn kn : Bool) (l : Int) (w : World) :
    Calls Try.prog 19 #[rd S dn kn l] w fun e w' => e = .returned (rd S false false 0) ∧ Below w.heap.size w w' := by
  unfold rd
  go_enter Try.func19, Try.ntmps19
  go_wp2
  exact bodyPost_ret (v := rd S false false 0) (by simp [results, Try.results19, go_sem, rd]) rfl ⟨rfl, two_alloc _ _ _⟩

set_option maxHeartbeats 400000 in
theorem rkeep_down (S : ByteArray) (kn : Bool) (l n : Int) (w : World) :
    Calls Try.prog 17 #[rd S true kn l, .int .i64 n] w fun e w' => e = .returned (.tuple #[rd S true kn l, .int .i64 23]) ∧ Below w.heap.size w w' := by
  unfold rd
  go_enter Try.func17, Try.ntmps17
  go_wp2
  exact bodyPost_ret (v := .tuple #[rd S true kn l, .int .i64 23]) (by simp [results, Try.results17, go_sem, rd]) rfl ⟨rfl, two_alloc _ _ _⟩

set_option maxHeartbeats 400000 in
theorem rkeep_arg (S : ByteArray) (kn : Bool) (l n : Int) (w : World) (h : n < 0 ∨ (S.size : Int) < n) :
    Calls Try.prog 17 #[rd S false kn l, .int .i64 n] w fun e w' => e = .returned (.tuple #[rd S false kn l, .int .i64 2]) ∧ Below w.heap.size w w' := by
  by_cases hc : n < 0
  · unfold rd
    go_enter Try.func17, Try.ntmps17
    go_wp2
    exact bodyPost_ret (v := .tuple #[rd S false kn l, .int .i64 2]) (by simp [results, Try.results17, go_sem, rd]) rfl ⟨rfl, two_alloc _ _ _⟩
  · have hc' : (S.size : Int) < n := by omega
    clear h
    unfold rd
    go_enter Try.func17, Try.ntmps17
    go_wp2
    exact bodyPost_ret (v := .tuple #[rd S false kn l, .int .i64 2]) (by simp [results, Try.results17, go_sem, rd]) rfl ⟨rfl, two_alloc _ _ _⟩

set_option maxHeartbeats 400000 in
theorem rkeep_ok (S : ByteArray) (kn : Bool) (l : Int) (m : Nat) (w : World) (h : m ≤ S.size) :
    Calls Try.prog 17 #[rd S false kn l, .int .i64 m] w fun e w' => e = .returned (.tuple #[rd (S.extract 0 m) false kn l, .int .i64 0]) ∧ Below w.heap.size w w' := by
  unfold rd
  go_enter Try.func17, Try.ntmps17
  go_wp2
  exact bodyPost_ret (v := .tuple #[rd (S.extract 0 m) false kn l, .int .i64 0]) (by simp [results, Try.results17, go_sem, rd]) rfl ⟨rfl, two_alloc _ _ _⟩

set_option maxHeartbeats 400000 in
theorem rwrite_down (S s : ByteArray) (kn : Bool) (l : Int) (w : World) :
    Calls Try.prog 20 #[rd S true kn l, .string s] w fun e w' => e = .returned (.tuple #[rd S true kn l, .int .i64 23]) ∧ Below w.heap.size w w' := by
  unfold rd
  go_enter Try.func20, Try.ntmps20
  go_wp2
  exact bodyPost_ret (v := .tuple #[rd S true kn l, .int .i64 23]) (by simp [results, Try.results20, go_sem, rd]) rfl ⟨rfl, two_alloc _ _ _⟩

set_option maxHeartbeats 400000 in
theorem rwrite_full (S s : ByteArray) (kn : Bool) (l : Int) (w : World) (hS : S.size ≤ 4000000) (hs : s.size ≤ 4000000) (h : 4000000 < S.size + s.size) :
    Calls Try.prog 20 #[rd S false kn l, .string s] w fun e w' => e = .returned (.tuple #[rd S false kn l, .int .i64 16]) ∧ Below w.heap.size w w' := by
  unfold rd
  go_enter Try.func20, Try.ntmps20
  go_wp2
  exact bodyPost_ret (v := .tuple #[rd S false kn l, .int .i64 16]) (by simp [results, Try.results20, go_sem, rd]) rfl ⟨rfl, two_alloc _ _ _⟩

set_option maxHeartbeats 400000 in
theorem rwrite_plain (S s : ByteArray) (l : Int) (w : World) (h : S.size + s.size ≤ 4000000) :
    Calls Try.prog 20 #[rd S false false l, .string s] w fun e w' => e = .returned (.tuple #[rd (S ++ s) false false l, .int .i64 0]) ∧ Below w.heap.size w w' := by
  unfold rd
  go_enter Try.func20, Try.ntmps20
  go_wp2
  exact bodyPost_ret (v := .tuple #[rd (S ++ s) false false l, .int .i64 0]) (by simp [results, Try.results20, go_sem, rd]) rfl ⟨rfl, two_alloc _ _ _⟩

set_option maxHeartbeats 400000 in
theorem rwrite_left (S s : ByteArray) (l : Nat) (w : World) (h : S.size + s.size ≤ 4000000) (hl : s.size ≤ l) (hl2 : (l : Int) ≤ 9223372036854775807) :
    Calls Try.prog 20 #[rd S false true l, .string s] w fun e w' => e = .returned (.tuple #[rd (S ++ s) false true ((l : Int) - s.size), .int .i64 0]) ∧ Below w.heap.size w w' := by
  unfold rd
  go_enter Try.func20, Try.ntmps20
  go_wp2
  exact bodyPost_ret (v := .tuple #[rd (S ++ s) false true ((l : Int) - s.size), .int .i64 0]) (by simp [results, Try.results20, go_sem, rd]) rfl ⟨rfl, two_alloc _ _ _⟩

set_option maxHeartbeats 400000 in
theorem rwrite_cut (S s : ByteArray) (l : Nat) (w : World) (h : S.size + s.size ≤ 4000000) (hl : l < s.size) :
    Calls Try.prog 20 #[rd S false true l, .string s] w fun e w' => e = .returned (.tuple #[rd (S ++ s.extract 0 l) true false 0, .int .i64 23]) ∧ Below w.heap.size w w' := by
  have h1 : l ≤ s.size := by omega
  unfold rd
  go_enter Try.func20, Try.ntmps20
  go_wp2
  go_region
  all_goals go_wp2
  all_goals exact bodyPost_ret (v := .tuple #[rd (S ++ s.extract 0 l) true false 0, .int .i64 23]) (by simp [results, Try.results20, go_sem, rd]) rfl ⟨rfl, (two_alloc _ _ _).drew⟩

/-- The document's disk, of the plain one. -/
def rdOf (d : Dk) : Value := rd ⟨d.bytes.toArray⟩ d.down (d.left != -1) (if d.left = -1 then 0 else d.left)
structure DkOk (d : Dk) : Prop where
  lo : -1 ≤ d.left
  hi : d.left ≤ 9223372036854775807
  len : d.bytes.length ≤ 4000000
theorem DkAt.ok {w : World} {F : List Nat} {b : Nat} {d : Dk} (h : DkAt w F b d) : DkOk d := by
  obtain ⟨_, _, _, _, _, _, h1, h2, h3⟩ := h; exact ⟨h1, h2, h3⟩
theorem mk_size (l : List UInt8) : (ByteArray.mk l.toArray).size = l.length := by simp [ByteArray.size]
theorem mk_append (l : List UInt8) (s : ByteArray) : ByteArray.mk l.toArray ++ s = ⟨(l ++ s.data.toList).toArray⟩ := by apply ByteArray.ext; simp
theorem mk_cut (s : ByteArray) (n : Nat) : (s.extract 0 n).data.toList = s.data.toList.take n := by simp
theorem mk_take (l : List UInt8) (n : Nat) : (ByteArray.mk l.toArray).extract 0 n = ⟨(l.take n).toArray⟩ := by apply ByteArray.ext; simp

theorem rdOf_never (S : List UInt8) (dn : Bool) : rdOf ⟨S, dn, -1⟩ = rd ⟨S.toArray⟩ dn false 0 := rfl
theorem rdOf_left (S : List UInt8) (dn : Bool) (l : Int) (h : l ≠ -1) : rdOf ⟨S, dn, l⟩ = rd ⟨S.toArray⟩ dn true l := by
  unfold rdOf
  dsimp only
  rw [if_neg h, bne_iff_ne.2 h]
theorem rdOf_any (S : List UInt8) (dn : Bool) (l : Int) : rdOf ⟨S, dn, l⟩ = rd ⟨S.toArray⟩ dn (l != -1) (if l = -1 then 0 else l) := rfl

theorem rwrite_of (d : Dk) (hd : DkOk d) (s : ByteArray) (hs : s.size ≤ 4000000) (w : World) :
    Calls Try.prog 20 #[rdOf d, .string s] w fun e w' => e = .returned (.tuple #[rdOf (d.wr s.data.toList).1, .int .i64 (d.wr s.data.toList).2]) ∧ Below w.heap.size w w' := by
  obtain ⟨S, dn, l⟩ := d
  obtain ⟨h1, h2, h3⟩ := hd
  dsimp only at h1 h2 h3
  have hz : s.data.toList.length = s.size := by simp
  have hS := mk_size S
  cases dn
  · by_cases hf : 4000000 < S.length + s.size
    · have e : Dk.wr ⟨S, false, l⟩ s.data.toList = (⟨S, false, l⟩, 16) := by unfold Dk.wr; rw [hz, if_neg (by simp), if_pos hf]
      rw [e, rdOf_any]
      exact rwrite_full _ s _ _ w (by omega) hs (by omega)
    by_cases hl : l = -1
    · subst hl
      have e : Dk.wr ⟨S, false, -1⟩ s.data.toList = (⟨S ++ s.data.toList, false, -1⟩, 0) := by unfold Dk.wr; rw [hz, if_neg (by simp), if_neg hf, if_neg (by simp), if_pos rfl]
      rw [e, rdOf_never]
      dsimp only
      rw [rdOf_never, ← mk_append]
      exact rwrite_plain ⟨S.toArray⟩ s 0 w (by omega)
    obtain ⟨n, rfl⟩ := Int.eq_ofNat_of_zero_le (show 0 ≤ l by omega)
    by_cases hc : (n : Int) < s.size
    · have e : Dk.wr ⟨S, false, n⟩ s.data.toList = (⟨S ++ s.data.toList.take n, true, -1⟩, 23) := by unfold Dk.wr; rw [hz, if_neg (by simp), if_neg hf, if_pos ⟨hl, hc⟩, Int.toNat_natCast]
      rw [e, rdOf_left _ _ _ hl]
      dsimp only
      rw [rdOf_never, ← mk_cut, ← mk_append]
      exact rwrite_cut ⟨S.toArray⟩ s n w (by omega) (by omega)
    · have e : Dk.wr ⟨S, false, n⟩ s.data.toList = (⟨S ++ s.data.toList, false, (n : Int) - s.size⟩, 0) := by unfold Dk.wr; rw [hz, if_neg (by simp), if_neg hf, if_neg (fun h => hc h.2), if_neg hl]
      rw [e, rdOf_left _ _ _ hl]
      dsimp only
      rw [rdOf_left _ _ _ (by omega), ← mk_append]
      exact rwrite_left ⟨S.toArray⟩ s n w (by omega) (by omega) (by omega)
  · have e : Dk.wr ⟨S, true, l⟩ s.data.toList = (⟨S, true, l⟩, 23) := by unfold Dk.wr; rw [if_pos rfl]
    rw [e, rdOf_any]
    exact rwrite_down _ s _ _ w

theorem rkeep_of (d : Dk) (n : Int) (w : World) :
    Calls Try.prog 17 #[rdOf d, .int .i64 n] w fun e w' => e = .returned (.tuple #[rdOf (d.keep n).1, .int .i64 (d.keep n).2]) ∧ Below w.heap.size w w' := by
  obtain ⟨S, dn, l⟩ := d
  have hS := mk_size S
  cases dn
  · by_cases h : n < 0 ∨ (S.length : Int) < n
    · have e : Dk.keep ⟨S, false, l⟩ n = (⟨S, false, l⟩, 2) := by unfold Dk.keep; rw [if_neg (by simp), if_pos h]
      rw [e, rdOf_any]
      exact rkeep_arg _ _ _ n w (by rw [hS]; exact h)
    · obtain ⟨m, rfl⟩ := Int.eq_ofNat_of_zero_le (show 0 ≤ n by omega)
      have e : Dk.keep ⟨S, false, l⟩ m = (⟨S.take m, false, l⟩, 0) := by unfold Dk.keep; rw [if_neg (by simp), if_neg h, Int.toNat_natCast]
      rw [e, rdOf_any]
      dsimp only
      rw [rdOf_any, ← mk_take]
      exact rkeep_ok ⟨S.toArray⟩ (l != -1) (if l = -1 then 0 else l) m w (by omega)
  · have e : Dk.keep ⟨S, true, l⟩ n = (⟨S, true, l⟩, 23) := by unfold Dk.keep; rw [if_pos rfl]
    rw [e, rdOf_any]
    exact rkeep_down _ _ _ n w

theorem rcut_of (d : Dk) (n : Int) (w : World) :
    Calls Try.prog 18 #[rdOf d, .int .i64 n] w fun e w' => e = .returned (rdOf (d.cut n)) ∧ Below w.heap.size w w' := by
  obtain ⟨S, dn, l⟩ := d
  rw [show Dk.cut ⟨S, dn, l⟩ n = ⟨S, dn, max 0 n⟩ from rfl, rdOf_left S dn (max 0 n) (by omega), rdOf_any]
  exact rcut_any _ _ _ _ n w

theorem rrestart_of (d : Dk) (w : World) :
    Calls Try.prog 19 #[rdOf d] w fun e w' => e = .returned (rdOf d.restart) ∧ Below w.heap.size w w' := by
  obtain ⟨S, dn, l⟩ := d
  unfold Dk.restart
  rw [rdOf_never, rdOf_any]
  exact rrestart_any _ _ _ _ w

end Go.Proofs.Ytoekidgnnibihaa
