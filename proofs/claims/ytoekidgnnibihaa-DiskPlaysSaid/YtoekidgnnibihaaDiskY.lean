/-
  DiskPlays returns true for every input. Conditions: none.
-/
import Derived.Test.YtoekidgnnibihaaDiskR
namespace Go.Proofs.Ytoekidgnnibihaa
open Go.RowKit
set_option linter.unusedVariables false

/-- An act as plain data: what, a text, a number. -/
structure DAct where
  act : Int
  text : ByteArray
  n : Int
def rpAct : Rp DAct := ⟨3, fun _ cs (x : DAct) => cs = [.int .u8 x.act, .string x.text, .int .i64 x.n] ∧ (Lit.int .u8 x.act).wf = true ∧ x.text.size ≤ maxLen ∧ (Lit.int .i64 x.n).wf = true, fun _ h => h⟩

theorem SlAt.act {w : World} {a : Option Addr} {n c i : Nat} {xs : List DAct} (h : SlAt rpAct w (.slice a n c) xs) (hi : i < n) : ∃ (b o : Nat) (x : DAct), a = some ⟨b, o, none⟩ ∧
    w.cell? ⟨b, o + i * 3, none⟩ = some (.int .u8 x.act) ∧ w.cell? ⟨b, o + i * 3 + 1, none⟩ = some (.string x.text) ∧ w.cell? ⟨b, o + i * 3 + 2, none⟩ = some (.int .i64 x.n) ∧
    (Lit.int .u8 x.act).wf = true ∧ x.text.size ≤ maxLen ∧ (Lit.int .i64 x.n).wf = true := by
  obtain ⟨a', c', h1, h2, h3, h4⟩ := h
  obtain ⟨rfl, rfl, rfl⟩ : a = a' ∧ n = xs.length ∧ c = c' := by simpa using h1
  obtain ⟨b, o, cs, h5, h6, h7, h8, h9⟩ := h4 i xs[i] (List.getElem?_eq_getElem hi)
  subst h8
  exact ⟨b, o, _, h5, h7 0 _ rfl, h7 1 _ rfl, h7 2 _ rfl, h9⟩

/-- A disk of the call's own, and blocks of the call's own beside it. -/
def OneX (B : Nat) (w wk : World) (a : Nat) (d : Dk) (L : List (Nat × Array Value × TypeId)) : Prop :=
  ∃ F, Below B w wk ∧ DkAt wk F a d ∧ (∀ k ∈ F, B ≤ k) ∧ B ≤ wk.heap.size ∧ ∀ x ∈ L, x.1 ∉ F ∧ B ≤ x.1 ∧ wk.heap[x.1]? = some (.cells x.2.1 x.2.2 (0, 0))
section
variable {P : Program} {B : Nat} {w wk w' : World} {a : Nat} {d d' : Dk} {L : List (Nat × Array Value × TypeId)} {f : FuncId} {args : Array Value} {v : Value}
theorem OneX.one (h : OneX B w wk a d L) : One B w wk a d := by obtain ⟨F, h1, h2, h3, h4, _⟩ := h; exact ⟨F, h1, h2, h3, h4⟩
theorem OneX.ofOne (h : One B w wk a d) : OneX B w wk a d [] := by obtain ⟨F, h1, h2, h3, h4⟩ := h; exact ⟨F, h1, h2, h3, h4, by simp⟩
theorem OneX.call (h : OneX B w wk a d L) (c : ∀ F, DkAt wk F a d → Calls P f args wk (DkPost wk F a v d')) : Calls P f args wk fun e w' => e = .returned v ∧ OneX B w w' a d' L := by
  obtain ⟨F, h1, h2, h4, h7, h8⟩ := h
  exact (c F h2).mono fun e w' ⟨he, F', hd, ho, hf⟩ => ⟨he, F', h1.trans (hf.below h7 h4), hd, ho.from h4 h7, Nat.le_trans h7 hf.size, fun x hx => by
    obtain ⟨g1, g2, g3⟩ := h8 x hx
    have hlt := (Array.getElem?_eq_some_iff.1 g3).1
    exact ⟨fun hm => (ho _ hm).elim g1 (fun hle => by omega), g2, by rw [hf.block _ hlt g1]; exact g3⟩⟩
theorem OneX.later (h : OneX B w wk a d L) (hb : Below wk.heap.size wk w') : OneX B w w' a d L := by
  obtain ⟨F, h1, h2, h4, h7, h8⟩ := h
  exact ⟨F, h1.trans (hb.mono h7), h2.kept fun k hk => hb.block k (h2.lt k hk), h4, Nat.le_trans h7 hb.size, fun x hx => by
    obtain ⟨g1, g2, g3⟩ := h8 x hx
    exact ⟨g1, g2, by rw [hb.block _ (Array.getElem?_eq_some_iff.1 g3).1]; exact g3⟩⟩
theorem OneX.push (h : OneX B w wk a d L) (cs : Array Value) (t : TypeId) : OneX B w (wk.alloc (.cells cs t)) a d ((wk.heap.size, cs, t) :: L) := by
  obtain ⟨F, h1, h2, h4, h7, h8⟩ := h
  refine ⟨F, h1.alloc h7 _, h2.kept fun k hk => Below.heap_alloc _ _ _ (h2.lt k hk), h4, Nat.le_trans h7 (by simp), fun x hx => ?_⟩
  rcases List.mem_cons.1 hx with rfl | hx
  · exact ⟨fun hm => Nat.lt_irrefl _ (h2.lt _ hm), h7, heap_alloc_new wk _⟩
  · obtain ⟨g1, g2, g3⟩ := h8 x hx
    exact ⟨g1, g2, by rw [Below.heap_alloc _ _ _ (Array.getElem?_eq_some_iff.1 g3).1]; exact g3⟩
theorem OneX.tail {x : Nat × Array Value × TypeId} (h : OneX B w wk a d (x :: L)) : OneX B w wk a d L := by
  obtain ⟨F, h1, h2, h4, h7, h8⟩ := h
  exact ⟨F, h1, h2, h4, h7, fun y hy => h8 y (List.mem_cons_of_mem _ hy)⟩
theorem OneX.store {x R : Nat} {cx cs : Array Value} {tx t : TypeId} (h : OneX B w wk a d [(x, cx, tx), (R, cs, t)]) (hn : x ≠ R) (j : Nat) (u : Value) :
    OneX B w (wk.setCell ⟨R, j, none⟩ u) a d [(x, cx, tx), (R, cs.setIfInBounds j u, t)] := by
  obtain ⟨F, h1, h2, h4, h7, h8⟩ := h
  obtain ⟨g1, g2, g3⟩ := h8 (R, cs, t) (by simp)
  obtain ⟨k1, k2, k3⟩ := h8 (x, cx, tx) (by simp)
  refine ⟨F, h1.setCell g2 _, h2.kept fun k hk => Below.heap_setCell _ _ _ _ (fun e => g1 (by rw [← show k = R from e]; exact hk)), h4, Nat.le_trans h7 (by simp [World.setCell]), fun y hy => ?_⟩
  rcases List.mem_cons.1 hy with rfl | hy
  · exact ⟨k1, k2, by rw [Below.heap_setCell _ _ _ _ hn]; exact k3⟩
  · obtain rfl := List.mem_singleton.1 hy
    exact ⟨g1, g2, heap_setCell_at g3⟩
theorem OneX.at {x : Nat × Array Value × TypeId} (h : OneX B w wk a d L) (hx : x ∈ L) : wk.heap[x.1]? = some (.cells x.2.1 x.2.2 (0, 0)) := by
  obtain ⟨F, h1, h2, h4, h7, h8⟩ := h
  exact (h8 x hx).2.2
theorem OneX.ok (h : OneX B w wk a d L) : DkOk d := by obtain ⟨F, _, h2, _⟩ := h; exact h2.ok
end

def rc (d : Dk) : Array Value := #[.string ⟨d.bytes.toArray⟩, .bool d.down, .bool (d.left != -1), .int .i64 (if d.left = -1 then 0 else d.left)]
theorem rdOf_rc (d : Dk) : rdOf d = .agg (rc d) := rfl

theorem rc_parts (d : Dk) : ∃ (S : ByteArray) (dn kn : Bool) (l : Int), rc d = #[.string S, .bool dn, .bool kn, .int .i64 l] ∧ S.size = d.bytes.length ∧ S = ⟨d.bytes.toArray⟩ ∧ dn = d.down := ⟨_, _, _, _, rfl, mk_size _, rfl, rfl⟩
theorem rdOf_parts {d : Dk} {cs : Array Value} (h : rc d = cs) : rdOf d = .agg cs := by rw [rdOf_rc, h]
theorem OneX.set4 {B : Nat} {w wk : World} {a : Nat} {d : Dk} {x R : Nat} {cx : Array Value} {tx t : TypeId} {a0 a1 a2 a3 b0 b1 b2 b3 : Value} (h : OneX B w wk a d [(x, cx, tx), (R, #[a0, a1, a2, a3], t)]) (hn : x ≠ R) :
    OneX B w ((((wk.setCell ⟨R, 0, none⟩ b0).setCell ⟨R, 1, none⟩ b1).setCell ⟨R, 2, none⟩ b2).setCell ⟨R, 3, none⟩ b3) a d [(x, cx, tx), (R, #[b0, b1, b2, b3], t)] :=
  (((h.store hn 0 b0).store hn 1 b1).store hn 2 b2).store hn 3 b3
theorem quiet_same {P : Program} {f : FuncId} {args : Array Value} {w : World} {n : Nat} {v : Value}
    (h : Calls P f args (w.drewN n) fun e w' => e = .returned v ∧ w.drewN n = w') : Calls P f args (w.drewN n) fun e w'' => e = .returned v ∧ ∃ m, w'' = w.drewN m :=
  h.mono fun _ _ ⟨he, hm⟩ => ⟨he, n, hm.symm⟩

set_option maxRecDepth 100000 in
set_option maxHeartbeats 4000000 in
theorem plays_any (v : Value) (xs : List DAct) (w : World) (hv : SlAt rpAct w v xs) :
    Calls Try.prog 5 #[v] w fun e w' => e = .returned (.bool true) ∧ Below w.heap.size w w' := by
  obtain ⟨a, c, rfl, hl1, hl2⟩ := hv.shape
  have hv2 := hv.take (m := min xs.length 40) (by omega)
  generalize xs.take (min xs.length 40) = l at hv2
  unfold maxLen at hl2
  clear hv
  generalize xs.length = n at *
  go_enter Try.func5, Try.ntmps5
  go_wp2_with fail
  refine (new_any _).mono ?_
  rintro e w1 ⟨rfl, hw1⟩
  have h1 := OneX.ofOne (One.start (Below.refl w.heap.size w))
  rw [← hw1] at h1
  clear hw1
  obtain ⟨A, hA⟩ : ∃ A, A = w.heap.size := ⟨_, rfl⟩
  rw [← hA] at h1 ⊢
  have HA := Lib.hid hA
  clear hA
  have h2 := h1.push #[.string ⟨#[]⟩, .bool false, .bool false, .int .i64 0] 38
  go_wp2_with fail
  rw [show max (min (n : Int) 40) 0 = ((min n 40 : Nat) : Int) by omega, show (min (n : Int) 40).toNat = min n 40 by omega]
  have hmn : min n 40 ≤ n := by omega
  have hm40 : min n 40 ≤ 40 := by omega
  generalize min n 40 = m at *
  generalize w1.heap.size = R at *
  generalize w1.alloc (.cells #[.string ⟨#[]⟩, .bool false, .bool false, .int .i64 0] 38) = w2 at *
  go_loopw [19] (fun i wr => ∃ (k : Nat) (d : Dk), k ≤ m ∧ i = .int .i64 k ∧ OneX A w wr A d [(R, rc d, 38)]) (fun i _ => m - (intOf i).toNat)
  case atStart => exact ⟨0, _, Nat.zero_le _, rfl, h2⟩
  case round =>
    obtain ⟨k, d, hk, rfl, hone⟩ := hrel
    clear h1 h2
    have hbl : Below w.heap.size w wr := by rw [← HA.out]; exact hone.one.below
    by_cases hlt : k < m
    · obtain ⟨b, o, x, rfl, hx0, hx1, hx2, wx0, wx1, wx2⟩ := (hv2.mono (below_cells hbl)).act hlt
      obtain ⟨p, tx, xn⟩ := x
      dsimp only at hx0 hx1 hx2 wx0 wx1 wx2
      have hp := bounds_u8 wx0
      have hn1 := bounds_i64 wx2
      unfold maxLen at wx1
      have HW := Lib.hid wx2
      clear wx0 wx2
      have hR := hone.at (x := (R, rc d, 38)) (by simp)
      have hRl := (Array.getElem?_eq_some_iff.1 hR).1
      have hne : wr.heap.size ≠ R := by dsimp only at hRl; omega
      have hone2 := hone.push #[.int .u8 p, .string tx, .int .i64 xn] 40
      by_cases c3 : p % 6 = 3
      · go_wp2_with fail
        generalize hX : wr.heap.size = X at *
        clear hX hR hRl hx0 hx1 hx2
        obtain ⟨S, dn, kn, l0, hrc, -, -, -⟩ := rc_parts d
        have hag := rdOf_parts hrc
        rw [hrc] at hone2
        have HA1 := Lib.hid hag
        clear hag hrc hone hbl
        refine (hone2.call (fun F hF => keep_any _ F _ _ xn hF)).mono ?_
        rintro e w3 ⟨rfl, h3⟩
        have hgX := h3.at (x := (X, #[.int .u8 p, .string tx, .int .i64 xn], 40)) (by simp)
        have hgR := h3.at (x := (R, #[.string S, .bool dn, .bool kn, .int .i64 l0], 38)) (by simp)
        have g0 : w3.cell? ⟨X, 0, none⟩ = some (.int .u8 p) := cell_at hgX
        have g1 : w3.cell? ⟨X, 1, none⟩ = some (.string tx) := cell_at hgX
        have g2 : w3.cell? ⟨X, 2, none⟩ = some (.int .i64 xn) := cell_at hgX
        have g3 : w3.cell? ⟨R, 0, none⟩ = some (.string S) := cell_at hgR
        have g4 : w3.cell? ⟨R, 1, none⟩ = some (.bool dn) := cell_at hgR
        have g5 : w3.cell? ⟨R, 2, none⟩ = some (.bool kn) := cell_at hgR
        have g6 : w3.cell? ⟨R, 3, none⟩ = some (.int .i64 l0) := cell_at hgR
        have gf : ∀ j, w3.frozen? ⟨R, j, none⟩ = false := fun j => free_at hgR
        clear hgX hgR
        go_wp2_with fail
        have hk := rkeep_of d xn w3
        rw [HA1.out] at hk
        refine hk.mono ?_
        rintro e w4 ⟨rfl, hb4⟩
        generalize (d.keep xn).2 = er at *
        have h4 := h3.later hb4
        clear h3 g0 g1 g2 g3 g4 g5 g6 gf hb4
        generalize hd' : (d.keep xn).1 = d' at *
        clear hd'
        obtain ⟨S', dn', kn', l', hrc', hS', hSd, hdn'⟩ := rc_parts d'
        rw [rdOf_parts hrc']
        have HRC := Lib.hid hrc'
        have HS := Lib.hid hS'
        have HSD := Lib.hid hSd
        have HDN := Lib.hid hdn'
        clear hrc' hS' hdn' hSd
        have hqX := h4.at (x := (X, #[.int .u8 p, .string tx, .int .i64 xn], 40)) (by simp)
        have hqR := h4.at (x := (R, #[.string S, .bool dn, .bool kn, .int .i64 l0], 38)) (by simp)
        have q0 : w4.cell? ⟨X, 0, none⟩ = some (.int .u8 p) := cell_at hqX
        have q1 : w4.cell? ⟨X, 1, none⟩ = some (.string tx) := cell_at hqX
        have q2 : w4.cell? ⟨X, 2, none⟩ = some (.int .i64 xn) := cell_at hqX
        have q3 : w4.cell? ⟨R, 0, none⟩ = some (.string S) := cell_at hqR
        have q4 : w4.cell? ⟨R, 1, none⟩ = some (.bool dn) := cell_at hqR
        have q5 : w4.cell? ⟨R, 2, none⟩ = some (.bool kn) := cell_at hqR
        have q6 : w4.cell? ⟨R, 3, none⟩ = some (.int .i64 l0) := cell_at hqR
        have qf : ∀ j, w4.frozen? ⟨R, j, none⟩ = false := fun j => free_at hqR
        clear hqX hqR
        have h5 := h4.set4 hne (b0 := .string S') (b1 := .bool dn') (b2 := .bool kn') (b3 := .int .i64 l')
        clear h4
        go_wp2_with fail
        clear q0 q1 q2 q3 q4 q5 q6 qf
        generalize (((w4.setCell ⟨R, 0, none⟩ (.string S')).setCell ⟨R, 1, none⟩ (.bool dn')).setCell ⟨R, 2, none⟩ (.bool kn')).setCell ⟨R, 3, none⟩ (.int .i64 l') = w5 at *
        obtain ⟨s0, c0, hc0, hc1, -⟩ := h5.one.cells
        have hqX := h5.at (x := (X, #[.int .u8 p, .string tx, .int .i64 xn], 40)) (by simp)
        have hqR := h5.at (x := (R, #[.string S', .bool dn', .bool kn', .int .i64 l'], 38)) (by simp)
        have q0 : w5.cell? ⟨X, 0, none⟩ = some (.int .u8 p) := cell_at hqX
        have q1 : w5.cell? ⟨X, 1, none⟩ = some (.string tx) := cell_at hqX
        have q2 : w5.cell? ⟨X, 2, none⟩ = some (.int .i64 xn) := cell_at hqX
        have q3 : w5.cell? ⟨R, 0, none⟩ = some (.string S') := cell_at hqR
        have q4 : w5.cell? ⟨R, 1, none⟩ = some (.bool dn') := cell_at hqR
        have q5 : w5.cell? ⟨R, 2, none⟩ = some (.bool kn') := cell_at hqR
        have q6 : w5.cell? ⟨R, 3, none⟩ = some (.int .i64 l') := cell_at hqR
        have qf : ∀ j, w5.frozen? ⟨R, j, none⟩ = false := fun j => free_at hqR
        clear hqX hqR
        rw [← HS.out] at hc0
        cases hdn : d'.down
        · rw [hdn] at hc1
          have hdd : dn' = false := HDN.out.trans hdn
          subst hdd
          refine (h5.one.read hdn).mono ?_
          rintro e w' ⟨rfl, rfl⟩
          rw [← HSD.out]
          clear hdn
          go_wp2_with fail
          go_quiet ((first | (go_at_call 13; exact quiet_same (down_any _ _ _ (by simpa using hc1))) | (go_at_call 12; exact quiet_same (size_any _ _ _ _ _ (by simpa using hc0)))))
          have h6 := h5.later (w' := w5.drewN nq) ⟨rfl, rfl, rfl, Nat.le_refl _, fun _ _ => rfl⟩
          have h7 := h6.tail
          rw [← HRC.out] at h7
          go_wp2
          go_roundw
          case rel => exact ⟨k + 1, d', by omega, by go_num, h7⟩
          case measure => simp [intOf]; omega
        · rw [hdn] at hc1
          have hdd : dn' = true := HDN.out.trans hdn
          subst hdd
          refine (read_down _ _ hc1).mono ?_
          rintro e w' ⟨rfl, rfl⟩
          clear hdn
          go_wp2_with fail
          go_quiet ((first | (go_at_call 13; exact quiet_same (down_any _ _ _ (by simpa using hc1))) | (go_at_call 12; exact quiet_same (size_any _ _ _ _ _ (by simpa using hc0)))))
          have h6 := h5.later (w' := w5.drewN nq) ⟨rfl, rfl, rfl, Nat.le_refl _, fun _ _ => rfl⟩
          have h7 := h6.tail
          rw [← HRC.out] at h7
          go_wp2
          go_roundw
          case rel => exact ⟨k + 1, d', by omega, by go_num, h7⟩
          case measure => simp [intOf]; omega
      by_cases c4 : p % 6 = 4
      · go_wp2_with fail
        generalize hX : wr.heap.size = X at *
        clear hX hR hRl hx0 hx1 hx2
        obtain ⟨S, dn, kn, l0, hrc, -, -, -⟩ := rc_parts d
        have hag := rdOf_parts hrc
        rw [hrc] at hone2
        have HA1 := Lib.hid hag
        clear hag hrc hone hbl
        refine (hone2.call (fun F hF => cut_any _ F _ _ xn hF (by omega))).mono ?_
        rintro e w3 ⟨rfl, h3⟩
        have hgX := h3.at (x := (X, #[.int .u8 p, .string tx, .int .i64 xn], 40)) (by simp)
        have hgR := h3.at (x := (R, #[.string S, .bool dn, .bool kn, .int .i64 l0], 38)) (by simp)
        have g0 : w3.cell? ⟨X, 0, none⟩ = some (.int .u8 p) := cell_at hgX
        have g1 : w3.cell? ⟨X, 1, none⟩ = some (.string tx) := cell_at hgX
        have g2 : w3.cell? ⟨X, 2, none⟩ = some (.int .i64 xn) := cell_at hgX
        have g3 : w3.cell? ⟨R, 0, none⟩ = some (.string S) := cell_at hgR
        have g4 : w3.cell? ⟨R, 1, none⟩ = some (.bool dn) := cell_at hgR
        have g5 : w3.cell? ⟨R, 2, none⟩ = some (.bool kn) := cell_at hgR
        have g6 : w3.cell? ⟨R, 3, none⟩ = some (.int .i64 l0) := cell_at hgR
        have gf : ∀ j, w3.frozen? ⟨R, j, none⟩ = false := fun j => free_at hgR
        clear hgX hgR
        go_wp2_with fail
        have hk := rcut_of d xn w3
        rw [HA1.out] at hk
        refine hk.mono ?_
        rintro e w4 ⟨rfl, hb4⟩
        have er := 0
        have h4 := h3.later hb4
        clear h3 g0 g1 g2 g3 g4 g5 g6 gf hb4
        generalize hd' : d.cut xn = d' at *
        clear hd'
        obtain ⟨S', dn', kn', l', hrc', hS', hSd, hdn'⟩ := rc_parts d'
        rw [rdOf_parts hrc']
        have HRC := Lib.hid hrc'
        have HS := Lib.hid hS'
        have HSD := Lib.hid hSd
        have HDN := Lib.hid hdn'
        clear hrc' hS' hdn' hSd
        have hqX := h4.at (x := (X, #[.int .u8 p, .string tx, .int .i64 xn], 40)) (by simp)
        have hqR := h4.at (x := (R, #[.string S, .bool dn, .bool kn, .int .i64 l0], 38)) (by simp)
        have q0 : w4.cell? ⟨X, 0, none⟩ = some (.int .u8 p) := cell_at hqX
        have q1 : w4.cell? ⟨X, 1, none⟩ = some (.string tx) := cell_at hqX
        have q2 : w4.cell? ⟨X, 2, none⟩ = some (.int .i64 xn) := cell_at hqX
        have q3 : w4.cell? ⟨R, 0, none⟩ = some (.string S) := cell_at hqR
        have q4 : w4.cell? ⟨R, 1, none⟩ = some (.bool dn) := cell_at hqR
        have q5 : w4.cell? ⟨R, 2, none⟩ = some (.bool kn) := cell_at hqR
        have q6 : w4.cell? ⟨R, 3, none⟩ = some (.int .i64 l0) := cell_at hqR
        have qf : ∀ j, w4.frozen? ⟨R, j, none⟩ = false := fun j => free_at hqR
        clear hqX hqR
        have h5 := h4.set4 hne (b0 := .string S') (b1 := .bool dn') (b2 := .bool kn') (b3 := .int .i64 l')
        clear h4
        go_wp2_with fail
        clear q0 q1 q2 q3 q4 q5 q6 qf
        generalize (((w4.setCell ⟨R, 0, none⟩ (.string S')).setCell ⟨R, 1, none⟩ (.bool dn')).setCell ⟨R, 2, none⟩ (.bool kn')).setCell ⟨R, 3, none⟩ (.int .i64 l') = w5 at *
        obtain ⟨s0, c0, hc0, hc1, -⟩ := h5.one.cells
        have hqX := h5.at (x := (X, #[.int .u8 p, .string tx, .int .i64 xn], 40)) (by simp)
        have hqR := h5.at (x := (R, #[.string S', .bool dn', .bool kn', .int .i64 l'], 38)) (by simp)
        have q0 : w5.cell? ⟨X, 0, none⟩ = some (.int .u8 p) := cell_at hqX
        have q1 : w5.cell? ⟨X, 1, none⟩ = some (.string tx) := cell_at hqX
        have q2 : w5.cell? ⟨X, 2, none⟩ = some (.int .i64 xn) := cell_at hqX
        have q3 : w5.cell? ⟨R, 0, none⟩ = some (.string S') := cell_at hqR
        have q4 : w5.cell? ⟨R, 1, none⟩ = some (.bool dn') := cell_at hqR
        have q5 : w5.cell? ⟨R, 2, none⟩ = some (.bool kn') := cell_at hqR
        have q6 : w5.cell? ⟨R, 3, none⟩ = some (.int .i64 l') := cell_at hqR
        have qf : ∀ j, w5.frozen? ⟨R, j, none⟩ = false := fun j => free_at hqR
        clear hqX hqR
        rw [← HS.out] at hc0
        cases hdn : d'.down
        · rw [hdn] at hc1
          have hdd : dn' = false := HDN.out.trans hdn
          subst hdd
          refine (h5.one.read hdn).mono ?_
          rintro e w' ⟨rfl, rfl⟩
          rw [← HSD.out]
          clear hdn
          go_wp2_with fail
          go_quiet ((first | (go_at_call 13; exact quiet_same (down_any _ _ _ (by simpa using hc1))) | (go_at_call 12; exact quiet_same (size_any _ _ _ _ _ (by simpa using hc0)))))
          have h6 := h5.later (w' := w5.drewN nq) ⟨rfl, rfl, rfl, Nat.le_refl _, fun _ _ => rfl⟩
          have h7 := h6.tail
          rw [← HRC.out] at h7
          go_wp2
          go_roundw
          case rel => exact ⟨k + 1, d', by omega, by go_num, h7⟩
          case measure => simp [intOf]; omega
        · rw [hdn] at hc1
          have hdd : dn' = true := HDN.out.trans hdn
          subst hdd
          refine (read_down _ _ hc1).mono ?_
          rintro e w' ⟨rfl, rfl⟩
          clear hdn
          go_wp2_with fail
          go_quiet ((first | (go_at_call 13; exact quiet_same (down_any _ _ _ (by simpa using hc1))) | (go_at_call 12; exact quiet_same (size_any _ _ _ _ _ (by simpa using hc0)))))
          have h6 := h5.later (w' := w5.drewN nq) ⟨rfl, rfl, rfl, Nat.le_refl _, fun _ _ => rfl⟩
          have h7 := h6.tail
          rw [← HRC.out] at h7
          go_wp2
          go_roundw
          case rel => exact ⟨k + 1, d', by omega, by go_num, h7⟩
          case measure => simp [intOf]; omega
      by_cases c5 : p % 6 = 5
      · go_wp2_with fail
        generalize hX : wr.heap.size = X at *
        clear hX hR hRl hx0 hx1 hx2
        obtain ⟨S, dn, kn, l0, hrc, -, -, -⟩ := rc_parts d
        have hag := rdOf_parts hrc
        rw [hrc] at hone2
        have HA1 := Lib.hid hag
        clear hag hrc hone hbl
        refine (hone2.call (fun F hF => restart_any _ F _ _ hF)).mono ?_
        rintro e w3 ⟨rfl, h3⟩
        have hgX := h3.at (x := (X, #[.int .u8 p, .string tx, .int .i64 xn], 40)) (by simp)
        have hgR := h3.at (x := (R, #[.string S, .bool dn, .bool kn, .int .i64 l0], 38)) (by simp)
        have g0 : w3.cell? ⟨X, 0, none⟩ = some (.int .u8 p) := cell_at hgX
        have g1 : w3.cell? ⟨X, 1, none⟩ = some (.string tx) := cell_at hgX
        have g2 : w3.cell? ⟨X, 2, none⟩ = some (.int .i64 xn) := cell_at hgX
        have g3 : w3.cell? ⟨R, 0, none⟩ = some (.string S) := cell_at hgR
        have g4 : w3.cell? ⟨R, 1, none⟩ = some (.bool dn) := cell_at hgR
        have g5 : w3.cell? ⟨R, 2, none⟩ = some (.bool kn) := cell_at hgR
        have g6 : w3.cell? ⟨R, 3, none⟩ = some (.int .i64 l0) := cell_at hgR
        have gf : ∀ j, w3.frozen? ⟨R, j, none⟩ = false := fun j => free_at hgR
        clear hgX hgR
        go_wp2_with fail
        have hk := rrestart_of d w3
        rw [HA1.out] at hk
        refine hk.mono ?_
        rintro e w4 ⟨rfl, hb4⟩
        have er := 0
        have h4 := h3.later hb4
        clear h3 g0 g1 g2 g3 g4 g5 g6 gf hb4
        generalize hd' : d.restart = d' at *
        clear hd'
        obtain ⟨S', dn', kn', l', hrc', hS', hSd, hdn'⟩ := rc_parts d'
        rw [rdOf_parts hrc']
        have HRC := Lib.hid hrc'
        have HS := Lib.hid hS'
        have HSD := Lib.hid hSd
        have HDN := Lib.hid hdn'
        clear hrc' hS' hdn' hSd
        have hqX := h4.at (x := (X, #[.int .u8 p, .string tx, .int .i64 xn], 40)) (by simp)
        have hqR := h4.at (x := (R, #[.string S, .bool dn, .bool kn, .int .i64 l0], 38)) (by simp)
        have q0 : w4.cell? ⟨X, 0, none⟩ = some (.int .u8 p) := cell_at hqX
        have q1 : w4.cell? ⟨X, 1, none⟩ = some (.string tx) := cell_at hqX
        have q2 : w4.cell? ⟨X, 2, none⟩ = some (.int .i64 xn) := cell_at hqX
        have q3 : w4.cell? ⟨R, 0, none⟩ = some (.string S) := cell_at hqR
        have q4 : w4.cell? ⟨R, 1, none⟩ = some (.bool dn) := cell_at hqR
        have q5 : w4.cell? ⟨R, 2, none⟩ = some (.bool kn) := cell_at hqR
        have q6 : w4.cell? ⟨R, 3, none⟩ = some (.int .i64 l0) := cell_at hqR
        have qf : ∀ j, w4.frozen? ⟨R, j, none⟩ = false := fun j => free_at hqR
        clear hqX hqR
        have h5 := h4.set4 hne (b0 := .string S') (b1 := .bool dn') (b2 := .bool kn') (b3 := .int .i64 l')
        clear h4
        go_wp2_with fail
        clear q0 q1 q2 q3 q4 q5 q6 qf
        generalize (((w4.setCell ⟨R, 0, none⟩ (.string S')).setCell ⟨R, 1, none⟩ (.bool dn')).setCell ⟨R, 2, none⟩ (.bool kn')).setCell ⟨R, 3, none⟩ (.int .i64 l') = w5 at *
        obtain ⟨s0, c0, hc0, hc1, -⟩ := h5.one.cells
        have hqX := h5.at (x := (X, #[.int .u8 p, .string tx, .int .i64 xn], 40)) (by simp)
        have hqR := h5.at (x := (R, #[.string S', .bool dn', .bool kn', .int .i64 l'], 38)) (by simp)
        have q0 : w5.cell? ⟨X, 0, none⟩ = some (.int .u8 p) := cell_at hqX
        have q1 : w5.cell? ⟨X, 1, none⟩ = some (.string tx) := cell_at hqX
        have q2 : w5.cell? ⟨X, 2, none⟩ = some (.int .i64 xn) := cell_at hqX
        have q3 : w5.cell? ⟨R, 0, none⟩ = some (.string S') := cell_at hqR
        have q4 : w5.cell? ⟨R, 1, none⟩ = some (.bool dn') := cell_at hqR
        have q5 : w5.cell? ⟨R, 2, none⟩ = some (.bool kn') := cell_at hqR
        have q6 : w5.cell? ⟨R, 3, none⟩ = some (.int .i64 l') := cell_at hqR
        have qf : ∀ j, w5.frozen? ⟨R, j, none⟩ = false := fun j => free_at hqR
        clear hqX hqR
        rw [← HS.out] at hc0
        cases hdn : d'.down
        · rw [hdn] at hc1
          have hdd : dn' = false := HDN.out.trans hdn
          subst hdd
          refine (h5.one.read hdn).mono ?_
          rintro e w' ⟨rfl, rfl⟩
          rw [← HSD.out]
          clear hdn
          go_wp2_with fail
          go_quiet ((first | (go_at_call 13; exact quiet_same (down_any _ _ _ (by simpa using hc1))) | (go_at_call 12; exact quiet_same (size_any _ _ _ _ _ (by simpa using hc0)))))
          have h6 := h5.later (w' := w5.drewN nq) ⟨rfl, rfl, rfl, Nat.le_refl _, fun _ _ => rfl⟩
          have h7 := h6.tail
          rw [← HRC.out] at h7
          go_wp2
          go_roundw
          case rel => exact ⟨k + 1, d', by omega, by go_num, h7⟩
          case measure => simp [intOf]; omega
        · rw [hdn] at hc1
          have hdd : dn' = true := HDN.out.trans hdn
          subst hdd
          refine (read_down _ _ hc1).mono ?_
          rintro e w' ⟨rfl, rfl⟩
          clear hdn
          go_wp2_with fail
          go_quiet ((first | (go_at_call 13; exact quiet_same (down_any _ _ _ (by simpa using hc1))) | (go_at_call 12; exact quiet_same (size_any _ _ _ _ _ (by simpa using hc0)))))
          have h6 := h5.later (w' := w5.drewN nq) ⟨rfl, rfl, rfl, Nat.le_refl _, fun _ _ => rfl⟩
          have h7 := h6.tail
          rw [← HRC.out] at h7
          go_wp2
          go_roundw
          case rel => exact ⟨k + 1, d', by omega, by go_num, h7⟩
          case measure => simp [intOf]; omega
      go_wp2_with fail
      generalize hX : wr.heap.size = X at *
      clear hX hR hRl hx0 hx1 hx2
      obtain ⟨S, dn, kn, l0, hrc, -, -, -⟩ := rc_parts d
      have hag := rdOf_parts hrc
      rw [hrc] at hone2
      have HA1 := Lib.hid hag
      clear hag hrc hone hbl
      have hcs := cutS_size tx 50
      unfold cutS at hcs
      generalize tx.extract 0 (min (tx.size : Int) 50).toNat = tc at *
      have hdk := Lib.hid hone2.ok
      refine (hone2.call (fun F hF => write_any _ F _ _ tc hF (by omega))).mono ?_
      rintro e w3 ⟨rfl, h3⟩
      have hgX := h3.at (x := (X, #[.int .u8 p, .string tx, .int .i64 xn], 40)) (by simp)
      have hgR := h3.at (x := (R, #[.string S, .bool dn, .bool kn, .int .i64 l0], 38)) (by simp)
      have g0 : w3.cell? ⟨X, 0, none⟩ = some (.int .u8 p) := cell_at hgX
      have g1 : w3.cell? ⟨X, 1, none⟩ = some (.string tx) := cell_at hgX
      have g2 : w3.cell? ⟨X, 2, none⟩ = some (.int .i64 xn) := cell_at hgX
      have g3 : w3.cell? ⟨R, 0, none⟩ = some (.string S) := cell_at hgR
      have g4 : w3.cell? ⟨R, 1, none⟩ = some (.bool dn) := cell_at hgR
      have g5 : w3.cell? ⟨R, 2, none⟩ = some (.bool kn) := cell_at hgR
      have g6 : w3.cell? ⟨R, 3, none⟩ = some (.int .i64 l0) := cell_at hgR
      have gf : ∀ j, w3.frozen? ⟨R, j, none⟩ = false := fun j => free_at hgR
      clear hgX hgR
      go_wp2_with fail
      have hk := rwrite_of d hdk.out tc (by omega) w3
      rw [HA1.out] at hk
      refine hk.mono ?_
      rintro e w4 ⟨rfl, hb4⟩
      generalize (d.wr tc.data.toList).2 = er at *
      have h4 := h3.later hb4
      clear h3 g0 g1 g2 g3 g4 g5 g6 gf hb4
      generalize hd' : (d.wr tc.data.toList).1 = d' at *
      clear hd'
      obtain ⟨S', dn', kn', l', hrc', hS', hSd, hdn'⟩ := rc_parts d'
      rw [rdOf_parts hrc']
      have HRC := Lib.hid hrc'
      have HS := Lib.hid hS'
      have HSD := Lib.hid hSd
      have HDN := Lib.hid hdn'
      clear hrc' hS' hdn' hSd
      have hqX := h4.at (x := (X, #[.int .u8 p, .string tx, .int .i64 xn], 40)) (by simp)
      have hqR := h4.at (x := (R, #[.string S, .bool dn, .bool kn, .int .i64 l0], 38)) (by simp)
      have q0 : w4.cell? ⟨X, 0, none⟩ = some (.int .u8 p) := cell_at hqX
      have q1 : w4.cell? ⟨X, 1, none⟩ = some (.string tx) := cell_at hqX
      have q2 : w4.cell? ⟨X, 2, none⟩ = some (.int .i64 xn) := cell_at hqX
      have q3 : w4.cell? ⟨R, 0, none⟩ = some (.string S) := cell_at hqR
      have q4 : w4.cell? ⟨R, 1, none⟩ = some (.bool dn) := cell_at hqR
      have q5 : w4.cell? ⟨R, 2, none⟩ = some (.bool kn) := cell_at hqR
      have q6 : w4.cell? ⟨R, 3, none⟩ = some (.int .i64 l0) := cell_at hqR
      have qf : ∀ j, w4.frozen? ⟨R, j, none⟩ = false := fun j => free_at hqR
      clear hqX hqR
      have h5 := h4.set4 hne (b0 := .string S') (b1 := .bool dn') (b2 := .bool kn') (b3 := .int .i64 l')
      clear h4
      go_wp2_with fail
      clear q0 q1 q2 q3 q4 q5 q6 qf
      generalize (((w4.setCell ⟨R, 0, none⟩ (.string S')).setCell ⟨R, 1, none⟩ (.bool dn')).setCell ⟨R, 2, none⟩ (.bool kn')).setCell ⟨R, 3, none⟩ (.int .i64 l') = w5 at *
      obtain ⟨s0, c0, hc0, hc1, -⟩ := h5.one.cells
      have hqX := h5.at (x := (X, #[.int .u8 p, .string tx, .int .i64 xn], 40)) (by simp)
      have hqR := h5.at (x := (R, #[.string S', .bool dn', .bool kn', .int .i64 l'], 38)) (by simp)
      have q0 : w5.cell? ⟨X, 0, none⟩ = some (.int .u8 p) := cell_at hqX
      have q1 : w5.cell? ⟨X, 1, none⟩ = some (.string tx) := cell_at hqX
      have q2 : w5.cell? ⟨X, 2, none⟩ = some (.int .i64 xn) := cell_at hqX
      have q3 : w5.cell? ⟨R, 0, none⟩ = some (.string S') := cell_at hqR
      have q4 : w5.cell? ⟨R, 1, none⟩ = some (.bool dn') := cell_at hqR
      have q5 : w5.cell? ⟨R, 2, none⟩ = some (.bool kn') := cell_at hqR
      have q6 : w5.cell? ⟨R, 3, none⟩ = some (.int .i64 l') := cell_at hqR
      have qf : ∀ j, w5.frozen? ⟨R, j, none⟩ = false := fun j => free_at hqR
      clear hqX hqR
      rw [← HS.out] at hc0
      cases hdn : d'.down
      · rw [hdn] at hc1
        have hdd : dn' = false := HDN.out.trans hdn
        subst hdd
        refine (h5.one.read hdn).mono ?_
        rintro e w' ⟨rfl, rfl⟩
        rw [← HSD.out]
        clear hdn
        go_wp2_with fail
        go_quiet ((first | (go_at_call 13; exact quiet_same (down_any _ _ _ (by simpa using hc1))) | (go_at_call 12; exact quiet_same (size_any _ _ _ _ _ (by simpa using hc0)))))
        have h6 := h5.later (w' := w5.drewN nq) ⟨rfl, rfl, rfl, Nat.le_refl _, fun _ _ => rfl⟩
        have h7 := h6.tail
        rw [← HRC.out] at h7
        go_wp2
        go_roundw
        case rel => exact ⟨k + 1, d', by omega, by go_num, h7⟩
        case measure => simp [intOf]; omega
      · rw [hdn] at hc1
        have hdd : dn' = true := HDN.out.trans hdn
        subst hdd
        refine (read_down _ _ hc1).mono ?_
        rintro e w' ⟨rfl, rfl⟩
        clear hdn
        go_wp2_with fail
        go_quiet ((first | (go_at_call 13; exact quiet_same (down_any _ _ _ (by simpa using hc1))) | (go_at_call 12; exact quiet_same (size_any _ _ _ _ _ (by simpa using hc0)))))
        have h6 := h5.later (w' := w5.drewN nq) ⟨rfl, rfl, rfl, Nat.le_refl _, fun _ _ => rfl⟩
        have h7 := h6.tail
        rw [← HRC.out] at h7
        go_wp2
        go_roundw
        case rel => exact ⟨k + 1, d', by omega, by go_num, h7⟩
        case measure => simp [intOf]; omega
    · go_wp2_with fail
      refine (wakes_any _).mono ?_
      rintro e w3 ⟨rfl, h3⟩
      go_wp2
      go_ret
      exact ⟨rfl, hbl.trans (h3.mono hbl.size)⟩

end Go.Proofs.Ytoekidgnnibihaa
