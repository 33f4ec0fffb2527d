/-
  Miner: entries in memory; does a transaction hang on an entry? Conditions: both lie in memory.
-/
import Derived.Test.YtfkcldaogfengaaMa
import Derived.Test.YtfkcldaogfengaaTxB
import Derived.Test.YtfkcldaogfengaaNew
import Derived.Test.YtfkcldaogfengaaReg
namespace Go.Proofs.Ytfkcldaogfengaa
open Go.RowKit Go.BigFrame
set_option linter.unusedVariables false
set_option linter.unusedSimpArgs false

structure PE.Ok (x : PE) : Prop where
  ver : x.tx.ver < 4294967296
  lock : x.tx.lock < 4294967296
  id : x.id.size ≤ 9223372036854775807
  fee : -9223372036854775808 ≤ x.fee ∧ x.fee ≤ 9223372036854775807
  size : -9223372036854775808 ≤ x.size ∧ x.size ≤ 9223372036854775807
def entC (x : PE) (va vb : Value) : List Value := [.int .u32 x.tx.ver, va, vb, .int .u32 x.tx.lock, .string x.id, .int .i64 x.fee, .int .i64 x.size]
def rpE : Rp PE := ⟨7, fun w cs x => ∃ va vb, cs = entC x va vb ∧ SlAt rpIn w va x.tx.ins ∧ SlAt rpOut w vb x.tx.outs ∧ x.Ok,
  fun hw ⟨va, vb, h1, h2, h3, h4⟩ => ⟨va, vb, h1, h2.mono hw, h3.mono hw, h4⟩⟩
/-- An entry as one value. -/
structure EntAt (w : World) (va vb : Value) (x : PE) : Prop where
  ins : SlAt rpIn w va x.tx.ins
  outs : SlAt rpOut w vb x.tx.outs
  ok : x.Ok
theorem EntAt.below {w w' : World} {va vb : Value} {x : PE} (h : EntAt w va vb x) (hb : Below w.heap.size w w') : EntAt w' va vb x := ⟨h.ins.below hb, h.outs.below hb, h.ok⟩
theorem EntAt.tx {w : World} {va vb : Value} {x : PE} (h : EntAt w va vb x) : TxAt w (.agg #[.int .u32 x.tx.ver, va, vb, .int .u32 x.tx.lock]) x.tx := ⟨va, vb, rfl, h.ins, h.outs, h.ok.ver, h.ok.lock⟩
theorem SlAt.ent {w : World} {a : Option Addr} {n c i : Nat} {xs : List PE} (h : SlAt rpE w (.slice a n c) xs) (hi : i < n) : ∃ (b o : Nat) (x : PE) (ia : Option Addr) (ni ic : Nat) (oa : Option Addr) (no oc : Nat), a = some ⟨b, o, none⟩ ∧ xs[i]? = some x ∧
    EntAt w (.slice ia ni ic) (.slice oa no oc) x ∧ (ni = x.tx.ins.length ∧ no = x.tx.outs.length) ∧
    w.cell? ⟨b, o + i * 7, none⟩ = some (.int .u32 x.tx.ver) ∧ w.cell? ⟨b, o + i * 7 + 1, none⟩ = some (.slice ia ni ic) ∧ w.cell? ⟨b, o + i * 7 + 2, none⟩ = some (.slice oa no oc) ∧ w.cell? ⟨b, o + i * 7 + 3, none⟩ = some (.int .u32 x.tx.lock) ∧
    w.cell? ⟨b, o + i * 7 + 4, none⟩ = some (.string x.id) ∧ w.cell? ⟨b, o + i * 7 + 5, none⟩ = some (.int .i64 x.fee) ∧ w.cell? ⟨b, o + i * 7 + 6, none⟩ = some (.int .i64 x.size) := by
  obtain ⟨b, o, x, cs, h1, h2, h3, h4, va, vb, h5, h6, h7, h8⟩ := h.at hi
  subst h5
  obtain ⟨ia, ic, rfl, -, -⟩ := h6.shape
  obtain ⟨oa, oc, rfl, -, -⟩ := h7.shape
  exact ⟨b, o, x, ia, _, ic, oa, _, oc, h1, h2, ⟨h6, h7, h8⟩, ⟨rfl, rfl⟩, h4 0 _ rfl, h4 1 _ rfl, h4 2 _ rfl, h4 3 _ rfl, h4 4 _ rfl, h4 5 _ rfl, h4 6 _ rfl⟩
/-- An entry in a box. -/
def EntBox (w : World) (X : Nat) (x : PE) (ia : Option Addr) (ni ic : Nat) (oa : Option Addr) (no oc : Nat) : Prop :=
  w.heap[X]? = some (.cells #[.int .u32 x.tx.ver, .slice ia ni ic, .slice oa no oc, .int .u32 x.tx.lock, .string x.id, .int .i64 x.fee, .int .i64 x.size] 43 (0, 0))

theorem mbytes_ne {a b : ByteArray} (h : a ≠ b) : (a.toList == b.toList) = false := by
  rw [ByteArray.toList_eq, ByteArray.toList_eq, beq_eq_false_iff_ne]
  intro h'
  apply h
  cases a; cases b
  simp at h'
  rw [h']
set_option maxRecDepth 100000 in
set_option maxHeartbeats 1000000 in
theorem hangs1_any (i : PIn) (x : PE) (v : Value) (X : Nat) (ia : Option Addr) (ni ic : Nat) (oa : Option Addr) (no oc : Nat) (w : World) (hv : InAt w v i) (hx : EntBox w X x ia ni ic oa no oc) (hno : no = x.tx.outs.length) (hl : no ≤ 9223372036854775807) :
    Calls Try.prog 57 #[v, .pointer (some ⟨X, 0, none⟩)] w fun e w' => e = .returned (.bool (hangsI x i)) ∧ Below w.heap.size w w' := by
  obtain ⟨wv, rfl, hw, h1, h2, h3⟩ := hv
  obtain ⟨wa, wc, rfl, -, -⟩ := hw.shape
  have c2 : w.cell? ⟨X, 2, none⟩ = some (.slice oa no oc) := cell_at hx
  have c4 : w.cell? ⟨X, 4, none⟩ = some (.string x.id) := cell_at hx
  obtain ⟨r, hr⟩ : ∃ r, r = hangsI x i := ⟨_, rfl⟩
  rw [← hr]
  unfold hangsI at hr
  rw [← hno] at hr
  have HR := Lib.hid hr
  clear hr hx hno hw
  go_enter Try.func57, Try.ntmps57
  go_upto_region 1 with fail
  have hz := heap_alloc_new w (.cells #[.string i.id, .int .u32 i.idx, .int .u32 i.seq, .slice wa i.wit.length wc] 66)
  have hal : Below w.heap.size w (w.alloc (.cells #[.string i.id, .int .u32 i.idx, .int .u32 i.seq, .slice wa i.wit.length wc] 66)) := (Below.refl _ _).alloc (Nat.le_refl _) _
  obtain ⟨Y, hY⟩ : ∃ q, q = w.heap.size := ⟨_, rfl⟩
  rw [← hY] at hz ⊢
  generalize w.alloc (.cells #[.string i.id, .int .u32 i.idx, .int .u32 i.seq, .slice wa i.wit.length wc] 66) = w1 at *
  have q0 : w1.cell? ⟨Y, 0, none⟩ = some (.string i.id) := cell_at hz
  have q1 : w1.cell? ⟨Y, 1, none⟩ = some (.int .u32 i.idx) := cell_at hz
  replace c2 := below_cells hal _ _ c2
  replace c4 := below_cells hal _ _ c4
  have HB := Lib.hid hal
  clear hz hal hY
  by_cases he : i.id = x.id
  · have hbe : (i.id.toList == x.id.toList) = true := by rw [he]; exact beq_self_eq_true _
    have HE := Lib.hid he
    have hcl : IntKind.i64.wrap (i.idx : Int) = (i.idx : Int) := by rw [IntKind.wrap_i64]; omega
    clear he
    by_cases hlt : i.idx < no
    · have HLT := Lib.hid hlt
      have hlt' : decide (i.idx < no) = true := decide_eq_true hlt
      clear hlt
      go_wp2_with fail
      go_ret
      exact ⟨ret_bool (by rw [HR.out, decide_eq_true HE.out, decide_eq_true HLT.out]; rfl), HB.out⟩
    · have HLT := Lib.hid hlt
      have hlt' : decide (i.idx < no) = false := decide_eq_false hlt
      clear hlt
      go_wp2_with fail
      go_ret
      exact ⟨ret_bool (by rw [HR.out, decide_eq_true HE.out, decide_eq_false HLT.out]; rfl), HB.out⟩
  · have hbe := mbytes_ne he
    have HE := Lib.hid he
    clear he
    go_wp2_with fail
    go_ret
    exact ⟨ret_bool (by rw [HR.out, decide_eq_false HE.out]; rfl), HB.out⟩


/-- The predicate's contract, wherever the call stands. -/
def PredHang (w : World) (cap : Value) (p : PIn → Bool) : Prop :=
  ∀ (w' : World) (v : Value) (x : PIn), Below w.heap.size w w' → InAt w' v x → Calls Try.prog 57 #[v, cap] w' fun e w'' => e = .returned (.bool (p x)) ∧ Below w'.heap.size w' w''
set_option maxRecDepth 100000 in
set_option maxHeartbeats 2000000 in
theorem idxHang (v : Value) (xs : List PIn) (cap : Value) (p : PIn → Bool) (w : World) (hv : SlAt rpIn w v xs) (hp : PredHang w cap p) :
    Calls Try.prog 67 #[v, .func (.func 57) #[] #[cap]] w fun e w' => (∃ n : Int, e = .returned (.int .i64 n) ∧ IdxIs p xs n) ∧ Below w.heap.size w w' := by
  obtain ⟨a, c, rfl, hl1, hl2⟩ := hv.shape
  rw [maxLen_eq] at hl2
  obtain ⟨n, hn⟩ : ∃ n, n = xs.length := ⟨_, rfl⟩
  rw [← hn] at hv hl1 ⊢
  have HN := Lib.hid hn
  have HP := Lib.hid hp
  clear hn hp
  go_enter Try.func67, Try.ntmps67
  go_wp2_with fail
  go_loopw [5, 8] (fun _ i wr => ∃ k : Nat, k ≤ n ∧ i = .int .i64 k ∧ Below w.heap.size w wr ∧ ∀ (j : Nat) (y : PIn), j < k → xs[j]? = some y → p y = false) (fun _ i _ => n - (Go.RowKit.intOf i).toNat)
  case atStart => exact ⟨0, Nat.zero_le _, rfl, Below.refl _ _, fun j x hj => absurd hj (Nat.not_lt_zero _)⟩
  case round =>
    rename World => wo
    obtain ⟨k, hk, rfl, hbw, hsame⟩ := hrel
    have HS := Lib.hid hsame
    have HW := Lib.hid hbw
    by_cases hlt : k < n
    · obtain ⟨b, o, x, wv, rfl, hx, hseq, hidx, hid, hwv, d0, d1, d2, d3⟩ := (hv.mono (below_cells hbw)).inp hlt
      have hc := HP.out wo (.agg #[.string x.id, .int .u32 x.idx, .int .u32 x.seq, wv]) x hbw ⟨wv, rfl, hwv, hidx, hseq, hid⟩
      have HX := Lib.hid hx
      obtain ⟨wa, wc, rfl, -, -⟩ := hwv.shape
      clear hx hseq hwv hbw hsame hv hidx hid
      cases hpx : p x
      · rw [hpx] at hc
        have HC := Lib.hid hc
        have HNX := Lib.hid (before_step HS.out HX.out hpx)
        clear hc hpx
        go_wp2_with fail
        refine HC.out.mono ?_
        rintro e w1 ⟨rfl, hb1⟩
        have HB1 := Lib.hid (HW.out.trans (hb1.mono HW.out.size))
        clear hb1
        go_wp2
        go_roundw
        case rel => exact ⟨k + 1, by omega, by go_num, HB1.out, HNX.out⟩
        case measure => simp [Go.RowKit.intOf]; omega
      · rw [hpx] at hc
        have HC := Lib.hid hc
        have HFN := Lib.hid (show IdxIs p xs (k : Int) from .inr ⟨k, x, rfl, HX.out, hpx, HS.out⟩)
        clear hc hpx
        go_wp2_with fail
        refine HC.out.mono ?_
        rintro e w1 ⟨rfl, hb1⟩
        have HB1 := Lib.hid (HW.out.trans (hb1.mono HW.out.size))
        clear hb1
        go_wp2
        go_ret
        exact ⟨⟨_, rfl, HFN.out⟩, HB1.out⟩
    · obtain rfl : k = n := by omega
      have HF := Lib.hid (any_no HN.out hsame)
      clear hsame hbw hv
      go_wp2
      go_ret
      exact ⟨⟨_, rfl, .inl ⟨rfl, HF.out⟩⟩, HW.out⟩
set_option maxHeartbeats 2000000 in
theorem conHang (v : Value) (xs : List PIn) (cap : Value) (p : PIn → Bool) (w : World) (hv : SlAt rpIn w v xs) (hp : PredHang w cap p) :
    Calls Try.prog 56 #[v, .func (.func 57) #[] #[cap]] w fun e w' => e = .returned (.bool (xs.any p)) ∧ Below w.heap.size w w' := by
  have HI := Lib.hid (idxHang v xs cap p w hv hp)
  obtain ⟨a, c, rfl, hl1, hl2⟩ := hv.shape
  clear hv hl1 hl2 hp
  generalize xs.length = n at *
  go_enter Try.func56, Try.ntmps56
  go_wp2_with fail
  refine HI.out.mono ?_
  rintro e w1 ⟨⟨m, rfl, hm⟩, hb1⟩
  have HM := Lib.hid hm.any
  clear hm
  go_wp2
  go_ret
  exact ⟨ret_bool HM.out, hb1⟩

set_option maxRecDepth 100000 in
set_option maxHeartbeats 1000000 in
theorem hangs_any (t : PTx) (x : PE) (v va vb : Value) (w : World) (ht : TxAt w v t) (hx : EntAt w va vb x) :
    Calls Try.prog 38 #[v, .agg #[.int .u32 x.tx.ver, va, vb, .int .u32 x.tx.lock, .string x.id, .int .i64 x.fee, .int .i64 x.size]] w (fun e w' => e = .returned (.bool (hangsB t x)) ∧ Below w.heap.size w w') := by
  obtain ⟨ta, tb, rfl, ht1, ht2, ht3, ht4⟩ := ht
  obtain ⟨a1, c1, rfl, -, -⟩ := ht1.shape
  obtain ⟨a2, c2, rfl, -, -⟩ := ht2.shape
  obtain ⟨ia, ic, rfl, -, -⟩ := hx.ins.shape
  obtain ⟨oa, oc, rfl, hl1, hl2⟩ := hx.outs.shape
  rw [maxLen_eq] at hl2
  have HI := Lib.hid ht1
  have HLL := Lib.hid (show x.tx.outs.length ≤ 9223372036854775807 by omega)
  clear ht1 ht2 ht3 ht4 hx hl1 hl2
  obtain ⟨no, hno⟩ : ∃ n, n = x.tx.outs.length := ⟨_, rfl⟩
  obtain ⟨ni, hni⟩ : ∃ n, n = x.tx.ins.length := ⟨_, rfl⟩
  obtain ⟨nt, hnt⟩ : ∃ n, n = t.ins.length := ⟨_, rfl⟩
  obtain ⟨nu, hnu⟩ : ∃ n, n = t.outs.length := ⟨_, rfl⟩
  rw [← hno] at HLL
  rw [← hno, ← hni, ← hnt, ← hnu]
  rw [← hnt] at HI
  have HNO := Lib.hid hno
  clear hno hni hnt hnu
  go_enter Try.func38, Try.ntmps38
  go_upto_region 1 with fail
  obtain ⟨X, hX⟩ : ∃ q, q = w.heap.size := ⟨_, rfl⟩
  have hnews := new2 w X hX (.cells #[.int .u32 t.ver, .slice a1 nt c1, .slice a2 nu c2, .int .u32 t.lock] 41) (.cells #[.int .u32 x.tx.ver, .slice ia ni ic, .slice oa no oc, .int .u32 x.tx.lock, .string x.id, .int .i64 x.fee, .int .i64 x.size] 43)
  rw [← hX]
  generalize ((w.alloc (.cells #[.int .u32 t.ver, .slice a1 nt c1, .slice a2 nu c2, .int .u32 t.lock] 41)).alloc (.cells #[.int .u32 x.tx.ver, .slice ia ni ic, .slice oa no oc, .int .u32 x.tx.lock, .string x.id, .int .i64 x.fee, .int .i64 x.size] 43)) = w1 at *
  obtain ⟨hz0, hz1, hal⟩ := hnews
  have q1 : w1.cell? ⟨X, 1, none⟩ = some (.slice a1 nt c1) := cell_at hz0
  have HB := Lib.hid hal
  have HZ := Lib.hid hz1
  have HI1 := Lib.hid (HI.out.below hal)
  clear hz0 hz1 hal hX
  go_wp2_with fail
  refine (conHang _ t.ins (.pointer (some ⟨X + 1, 0, none⟩)) (hangsI x) w1 HI1.out (fun w' v' y hb hy => hangs1_any y x v' (X + 1) ia ni ic oa no oc w' hy (stay HZ.out hb) HNO.out HLL.out)).mono ?_
  rintro e w2 ⟨rfl, hxc⟩
  have HB2 := Lib.hid (HB.out.trans (hxc.mono HB.out.size))
  clear hxc
  go_wp2_with fail
  go_ret
  exact ⟨rfl, HB2.out⟩
end Go.Proofs.Ytfkcldaogfengaa
