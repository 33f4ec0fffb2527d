/-
  CheckFeesCard, part 3: the texts TxC, TxE, one after another. Conditions: none beyond those named at each.
-/
import Derived.Test.YtelindgnkpfkiaaGreatDoorQ2CheckFeesCard
import Derived.Test.YtelindgnkpfkiaaGreatDoorShelf
import Derived.Laws.EntriesVeiled
section
/-
  The base point, and what is one. Conditions: none beyond each theorem's own.
-/
namespace Go.Proofs.YtelindgnkpfkiaaGreatDoor
open Go.RowKit Go.BigFrame
set_option linter.unusedVariables false
set_option linter.unusedSimpArgs false

def zeros32 : ByteArray := ⟨(List.replicate 32 (0 : UInt8)).toArray⟩
theorem zeros32_size : zeros32.size = 32 := by decide
def isBase (id : ByteArray) (idx : Nat) : Bool := decide (id = zeros32) && decide (idx = 4294967295)
theorem repeat_zero (c : Nat) : Lib.repeatL [(0 : UInt8)] c = List.replicate c 0 := by
  induction c with
  | zero => rfl
  | succ c ih => simp [Lib.repeatL, ih, List.replicate_succ]
theorem repeat32_any (w : World) : Calls Tryz.prog 78 #[.string ⟨#[0]⟩, .int .i64 32] w fun e w' => e = .returned (.string zeros32) ∧ Below w.heap.size w w' := by
  have h := Tryz.strings_Repeat (ByteArray.mk #[0]) 32 w (by omega) (by rw [show (ByteArray.mk #[0]).size = 1 from rfl]; omega)
  rw [show (ByteArray.mk #[0]).data.toList = [0] from rfl, repeat_zero] at h
  exact h

theorem zeros_of (s : ByteArray) (hs : s.size = 32) (h : ∀ (j : Nat) (hj : j < s.size), j < 32 → s[j] = 0) : s = zeros32 := by
  apply ByteArray.ext
  apply Array.ext
  · exact hs.trans zeros32_size.symm
  · intro i h1 h2
    have e : s.data[i] = 0 := h i h1 (by have : s.data.size = 32 := hs; omega)
    rw [e]
    simp only [zeros32, List.getElem_toArray, List.getElem_replicate]
theorem zeros_at (j : Nat) (hj : j < zeros32.size) : zeros32[j] = 0 := by
  show zeros32.data[j] = 0
  simp only [zeros32, List.getElem_toArray, List.getElem_replicate]

set_option maxRecDepth 100000 in
set_option maxHeartbeats 1000000 in
theorem base_any (w : World) : Calls Tryz.prog 55 #[] w fun e w' => e = .returned (.agg #[.string zeros32, .int .u32 4294967295]) ∧ Below w.heap.size w w' := by
  go_enter Tryz.func55, Tryz.ntmps55
  go_wp2_with fail
  refine (repeat32_any _).mono ?_
  rintro e w1 ⟨rfl, hb1⟩
  have hal : Below w.heap.size w (w.alloc (.cells #[.string ByteArray.empty, .int .u32 0] 46)) := (Below.refl _ _).alloc (Nat.le_refl _) _
  have hz : w1.heap[w.heap.size]? = some (.cells #[.string ByteArray.empty, .int .u32 0] 46 (0, 0)) := by rw [hb1.block _ (by simp)]; exact heap_alloc_new w _
  have HB := Lib.hid (hal.trans (hb1.mono (by simp)))
  have HZ := Lib.hid hz
  have z0 : w1.cell? ⟨w.heap.size, 0, none⟩ = some (.string ByteArray.empty) := cell_at hz
  have z1 : w1.cell? ⟨w.heap.size, 1, none⟩ = some (.int .u32 0) := cell_at hz
  have f0 : w1.frozen? ⟨w.heap.size, 0, none⟩ = false := free_at hz
  have f1 : w1.frozen? ⟨w.heap.size, 1, none⟩ = false := free_at hz
  have hsz : w.heap.size < w1.heap.size := (Array.getElem?_eq_some_iff.1 hz).1
  clear hb1 hz hal
  go_wp2_with fail
  have q1 := heap_setCell_at (j := 0) (u := .string zeros32) HZ.out
  have q2 := heap_setCell_at (j := 1) (u := .int .u32 4294967295) q1
  have hb2 := (HB.out.setCell (p := ⟨w.heap.size, 0, none⟩) (Nat.le_refl _) (.string zeros32)).setCell (p := ⟨w.heap.size, 1, none⟩) (Nat.le_refl _) (.int .u32 4294967295)
  generalize (w1.setCell ⟨w.heap.size, 0, none⟩ (.string zeros32)).setCell ⟨w.heap.size, 1, none⟩ (.int .u32 4294967295) = w2 at *
  have y0 : w2.cell? ⟨w.heap.size, 0, none⟩ = some (.string zeros32) := cell_at q2
  have y1 : w2.cell? ⟨w.heap.size, 1, none⟩ = some (.int .u32 4294967295) := cell_at q2
  exact bodyPost_ret (v := .agg #[.string zeros32, .int .u32 4294967295]) (by simp [results, Tryz.results55, go_sem, y0, y1]) rfl ⟨rfl, hb2⟩

set_option maxRecDepth 100000 in
set_option maxHeartbeats 1000000 in
theorem rbase_any (id : ByteArray) (idx : Nat) (hi : idx < 4294967296) (hid : id.size ≤ 9223372036854775807) (w : World) : Calls Tryz.prog 42 #[.agg #[.string id, .int .u32 idx]] w fun e w' => e = .returned (.bool (isBase id idx)) ∧ Below w.heap.size w w' := by
  have hal : Below w.heap.size w (w.alloc (.cells #[.string id, .int .u32 idx] 46)) := (Below.refl _ _).alloc (Nat.le_refl _) _
  have hz := heap_alloc_new w (.cells #[.string id, .int .u32 idx] 46)
  have HAL := Lib.hid hal
  have HZ := Lib.hid hz
  clear hal hz
  go_enter Tryz.func42, Tryz.ntmps42
  go_upto_region 1 with fail
  generalize w.alloc (.cells #[.string id, .int .u32 idx] 46) = w0 at *
  have z0 : w0.cell? ⟨w.heap.size, 0, none⟩ = some (.string id) := cell_at HZ.out
  have z1 : w0.cell? ⟨w.heap.size, 1, none⟩ = some (.int .u32 idx) := cell_at HZ.out
  by_cases h32 : id.size = 32
  · by_cases hmx : idx = 4294967295
    · subst hmx
      go_wp2_with fail
      go_loopg [3] 32 (fun g i wr => ∃ k : Nat, g = 32 - k ∧ k ≤ 32 ∧ i = .int .i64 k ∧ wr = w0 ∧ ∀ (j : Nat) (hj : j < id.size), j < k → id[j] = 0)
      case atStart => exact ⟨0, rfl, by omega, rfl, rfl, fun j _ hj => absurd hj (Nat.not_lt_zero _)⟩
      case round =>
        rename World => wo
        obtain ⟨k, hgk, hk, rfl, rfl, hall⟩ := hrel
        have HGK := Lib.hid hgk
        have HALL := Lib.hid hall
        clear hgk hall
        by_cases hlt : k < 32
        · have hkl : k < id.size := by omega
          cases hb : (id[k] == 0)
          · have hne : id[k] ≠ 0 := by simpa using hb
            have hnat : (id[k].toNat : Int) ≠ 0 := by
              intro h
              apply hne
              apply UInt8.toNat_inj.1
              have : id[k].toNat = 0 := by omega
              rw [this]; rfl
            have hfin : isBase id 4294967295 = false := by
              unfold isBase
              rw [decide_eq_false, Bool.false_and]
              intro h
              subst h
              exact hne (zeros_at k hkl)
            have HF := Lib.hid hfin
            clear hfin hb hne
            go_wp2_with fail
            go_ret
            exact ⟨ret_bool HF.out.symm, HAL.out⟩
          · have heq : id[k] = 0 := by simpa using hb
            have hnat : (id[k].toNat : Int) = 0 := by rw [heq]; rfl
            clear hb
            go_wp2_with fail
            go_roundg (32 - (k + 1))
            case measure => have := HGK.out; omega
            case rel =>
              refine ⟨k + 1, rfl, by omega, by go_num, rfl, fun j hj hjk => ?_⟩
              rcases Nat.lt_or_ge j k with h | h
              · exact HALL.out j hj h
              · obtain rfl : j = k := by omega
                exact heq
        · obtain rfl : k = 32 := by omega
          have hfin : isBase id 4294967295 = true := by
            rw [zeros_of id h32 HALL.out]
            rfl
          have HF := Lib.hid hfin
          go_wp2_with fail
          go_ret
          exact ⟨ret_bool HF.out.symm, HAL.out⟩
    · have hmi : (idx : Int) ≠ 4294967295 := by omega
      have HF := Lib.hid (show isBase id idx = false by unfold isBase; rw [decide_eq_false hmx, Bool.and_false])
      go_wp2_with fail
      go_ret
      exact ⟨ret_bool HF.out.symm, HAL.out⟩
  · have hmi : (id.size : Int) ≠ 32 := by omega
    have HF := Lib.hid (show isBase id idx = false by
      unfold isBase
      rw [decide_eq_false, Bool.false_and]
      intro h
      exact h32 (by rw [h]; exact zeros32_size))
    go_wp2_with fail
    go_ret
    exact ⟨ret_bool HF.out.symm, HAL.out⟩

def ptV (a : ByteArray × Nat) : Value := .agg #[.string a.1, .int .u32 a.2]
theorem guardPt : Tryz.prog.eqGuardType Tryz.prog.depth 46 = false := by kernel_rfl
theorem eqIn_pt (a b : ByteArray × Nat) (w : World) : (Op.equalIn 10000 46 (ptV a) (ptV b)).run Tryz.prog w = .ok (decide (a = b)) w := by
  have hS : Tryz.prog.underlying 46 = some (.struct (Tryz.prog.fieldsOf 46)) := by kernel_rfl
  have hp : Tryz.prog.stoodInHeld 46 = false := by kernel_rfl
  obtain ⟨a1, a2⟩ := a
  obtain ⟨b1, b2⟩ := b
  unfold ptV
  dsimp only
  rw [show (10000 : Nat) = 9999 + 1 from rfl, run_equalIn_agg w 9999 46 _ _ hS hp]
  simp only [Program.fieldsOf, Tryz.underlying46]
  have u1 := Tryz.underlying9
  have u2 := Tryz.underlying25
  go_simp
  rw [ByteArray.toList_eq, ByteArray.toList_eq]
  by_cases h1 : a1 = b1
  · subst h1
    by_cases h2 : a2 = b2 <;> simp [h2]
    omega
  · have : a1.data.toList ≠ b1.data.toList := fun h => h1 (by cases a1; cases b1; simp at h; simp [h])
    simp [h1, this]
theorem eq_pt (a b : ByteArray × Nat) (w : World) : (binOp .eql 46 (ptV a) (ptV b)).run Tryz.prog w = .ok (.bool (decide (a = b))) w := by
  unfold ptV
  rw [run_eql_struct]
  have := eqIn_pt a b w
  unfold ptV at this
  rw [this]
  rfl
theorem isBase_pt (id : ByteArray) (idx : Nat) : decide ((id, idx) = (zeros32, 4294967295)) = isBase id idx := by
  unfold isBase
  by_cases h1 : id = zeros32 <;> by_cases h2 : idx = 4294967295 <;> simp [h1, h2]
theorem eq_base (id : ByteArray) (idx : Nat) (w : World) : (binOp .eql 46 (.agg #[.string id, .int .u32 idx]) (.agg #[.string zeros32, .int .u32 4294967295])).run Tryz.prog w = .ok (.bool (isBase id idx)) w := by
  rw [← isBase_pt]
  exact eq_pt (id, idx) (zeros32, 4294967295) w
theorem eqIn_base (id : ByteArray) (idx : Nat) (w : World) : (Op.equalIn 10000 46 (.agg #[.string id, .int .u32 idx]) (.agg #[.string zeros32, .int .u32 4294967295])).run Tryz.prog w = .ok (isBase id idx) w := by
  rw [← isBase_pt]
  exact eqIn_pt (id, idx) (zeros32, 4294967295) w
end Go.Proofs.YtelindgnkpfkiaaGreatDoor
end

section
/-
  A transaction's counts, lengths and form. Conditions: no more than a thousand Outs.
-/
namespace Go.Proofs.YtelindgnkpfkiaaGreatDoor
open Go.RowKit Go.BigFrame
set_option linter.unusedVariables false
set_option linter.unusedSimpArgs false

set_option maxHeartbeats 400000 in
theorem twithin_any (n m : Nat) (w : World) : Calls Tryz.prog 97 #[.int .i64 n, .int .i64 m] w fun e w' => e = .returned (.bool (decide (1 ≤ n) && decide (n ≤ m))) ∧ w = w' := by
  go_enter Tryz.func97, Tryz.ntmps97
  by_cases h0 : 1 ≤ n
  · go_wp2
    go_ret
    exact ⟨ret_bool (by simp [h0]), rfl⟩
  · have h1 : n = 0 := by omega
    subst h1
    go_wp2
    go_ret
    exact ⟨rfl, rfl⟩

set_option maxRecDepth 100000 in
set_option maxHeartbeats 1000000 in
theorem cnt1_any (v : Value) (x : PIn) (w : World) (hv : InAt w v x) : Calls Tryz.prog 98 #[v] w fun e w' => e = .returned (.bool (decide (4 < x.wit.length))) ∧ Below w.heap.size w w' := by
  obtain ⟨wv, rfl, hw, -, -, -⟩ := hv
  obtain ⟨a, c, rfl, h1, h2⟩ := hw.shape
  clear hw
  rw [maxLen_eq] at h2
  generalize x.wit.length = n at *
  go_enter Tryz.func98, Tryz.ntmps98
  go_wp2
  go_ret
  exact ⟨ret_bool (by simp; omega), (Below.refl _ _).alloc (Nat.le_refl _) _⟩
set_option maxRecDepth 100000 in
set_option maxHeartbeats 1000000 in
theorem lng2_any (v : Value) (x : POut) (w : World) (hv : OutAt w v x) : Calls Tryz.prog 101 #[v] w fun e w' => e = .returned (.bool (decide (40 < x.script.size))) ∧ Below w.heap.size w w' := by
  obtain ⟨rfl, -, h2⟩ := hv
  rw [maxLen_eq] at h2
  go_enter Tryz.func101, Tryz.ntmps101
  go_wp2
  go_ret
  exact ⟨ret_bool (by simp; omega), (Below.refl _ _).alloc (Nat.le_refl _) _⟩
set_option maxRecDepth 100000 in
set_option maxHeartbeats 1000000 in
theorem lng1_any (v : Value) (x : ByteArray) (w : World) (hv : StrAt w v x) : Calls Tryz.prog 99 #[v] w fun e w' => e = .returned (.bool (decide (80 < x.size))) ∧ Below w.heap.size w w' := by
  obtain ⟨rfl, h2⟩ := hv
  go_enter Tryz.func99, Tryz.ntmps99
  go_wp2
  go_ret
  exact ⟨ret_bool (by simp; omega), Below.refl _ _⟩
def longIn (x : PIn) : Bool := x.wit.any fun s => decide (80 < s.size)
set_option maxRecDepth 100000 in
set_option maxHeartbeats 1000000 in
theorem lng3_any (v : Value) (b : Nat) (x : PIn) (w : World) (hv : InAt w v x) (hc : w.cell? ⟨b, 0, none⟩ = some (.func (.func 99) #[] #[])) : Calls Tryz.prog 102 #[v, .pointer (some ⟨b, 0, none⟩)] w fun e w' => e = .returned (.bool (longIn x)) ∧ Below w.heap.size w w' := by
  obtain ⟨wv, rfl, hw, -, -, -⟩ := hv
  obtain ⟨a, c, rfl, h1, h2⟩ := hw.shape
  have hal : Below w.heap.size w (w.alloc (.cells #[.string x.id, .int .u32 x.idx, .int .u32 x.seq, .slice a x.wit.length c] 56)) := (Below.refl _ _).alloc (Nat.le_refl _) _
  have hw1 := hw.below hal
  have hc1 := below_cells hal _ _ hc
  have HP : PredLngS (w.alloc (.cells #[.string x.id, .int .u32 x.idx, .int .u32 x.seq, .slice a x.wit.length c] 56)) (fun s => decide (80 < s.size)) := fun w' v' y hb hy => lng1_any v' y w' hy
  have HC := Lib.hid (conLngS _ _ _ _ hw1 HP)
  have HAL := Lib.hid hal
  clear hw hal hw1 HP hc
  generalize x.wit.length = n at *
  go_enter Tryz.func102, Tryz.ntmps102
  go_wp2_with fail
  refine HC.out.mono ?_
  rintro e w' ⟨rfl, hb⟩
  have HB := Lib.hid (HAL.out.trans (hb.mono (by simp)))
  clear hb
  go_wp2
  go_ret
  exact ⟨rfl, HB.out⟩

def countsOf (t : PTx) : Bool := ((decide (1 ≤ t.ins.length) && decide (t.ins.length ≤ 256)) && (decide (1 ≤ t.outs.length) && decide (t.outs.length ≤ 256))) && !t.ins.any fun x => decide (4 < x.wit.length)
def longOf (t : PTx) : Bool := (t.outs.any fun x => decide (40 < x.script.size)) || t.ins.any longIn
def formIn (n : Nat) (x : PIn) : Bool := decide (x.id.size = 32) && !(isBase x.id x.idx && decide (1 < n))
def formedOf (t : PTx) : Bool := t.ins.all (formIn t.ins.length)

/-- It returns this bool, and makes new blocks alone. -/
def BIs (b : Bool) (w : World) (e : Ending) (w' : World) : Prop := e = .returned (.bool b) ∧ Below w.heap.size w w'

set_option maxRecDepth 100000 in
set_option maxHeartbeats 1000000 in
theorem counts_any (v : Value) (t : PTx) (w : World) (hv : TxAt w v t) : Calls Tryz.prog 83 #[v] w (BIs (countsOf t) w) := by
  obtain ⟨r, hr⟩ : ∃ r, r = countsOf t := ⟨_, rfl⟩
  rw [← hr]
  unfold countsOf at hr
  have HR := Lib.hid hr
  clear hr
  obtain ⟨va, vo, rfl, hia, hob, -, -⟩ := hv
  obtain ⟨a, c, rfl, hl1, hl2⟩ := hia.shape
  obtain ⟨a', c', rfl, hl1', hl2'⟩ := hob.shape
  rw [maxLen_eq] at hl2 hl2'
  have htb := TB.start hia hob
  have HTB := Lib.hid htb
  clear htb hia hob
  go_enter Tryz.func83, Tryz.ntmps83
  go_upto_region 1 with fail
  generalize w.alloc (.cells #[.int .u32 t.ver, .slice a t.ins.length c, .slice a' t.outs.length c', .int .u32 t.lock] 35) = w0 at *
  have c1 : w0.cell? ⟨w.heap.size, 1, none⟩ = some (.slice a t.ins.length c) := cell_at HTB.out.box
  have c2 : w0.cell? ⟨w.heap.size, 2, none⟩ = some (.slice a' t.outs.length c') := cell_at HTB.out.box
  have HCON := Lib.hid (conCnt _ t.ins (fun x => decide (4 < x.wit.length)) w0 HTB.out.ins (fun w' v' y hb hy => cnt1_any v' y w' hy))
  generalize (t.ins.any fun x => decide (4 < x.wit.length)) = bb at *
  have HB := Lib.hid HTB.out.bel
  clear HTB
  generalize t.ins.length = n at *
  generalize t.outs.length = n' at *
  have HW1 := Lib.hid (twithin_any n 256 w0)
  have HW2 := Lib.hid (twithin_any n' 256 w0)
  generalize (decide (1 ≤ n) && decide (n ≤ 256)) = b1 at *
  generalize (decide (1 ≤ n') && decide (n' ≤ 256)) = b2 at *
  cases b1
  · go_wp2_with fail
    refine HW1.out.mono ?_
    rintro e w' ⟨rfl, rfl⟩
    go_wp2_with fail
    go_ret
    exact ⟨ret_bool (by rw [HR.out]; rfl), HB.out⟩
  · cases b2
    · go_wp2_with fail
      refine HW1.out.mono ?_
      rintro e w' ⟨rfl, rfl⟩
      go_wp2_with fail
      refine HW2.out.mono ?_
      rintro e w' ⟨rfl, rfl⟩
      go_wp2_with fail
      go_ret
      exact ⟨ret_bool (by rw [HR.out]; rfl), HB.out⟩
    · go_wp2_with fail
      refine HW1.out.mono ?_
      rintro e w' ⟨rfl, rfl⟩
      go_wp2_with fail
      refine HW2.out.mono ?_
      rintro e w' ⟨rfl, rfl⟩
      go_wp2_with fail
      refine HCON.out.mono ?_
      rintro e w' ⟨rfl, hb⟩
      have HB2 := Lib.hid (HB.out.trans (hb.mono HB.out.size))
      clear hb
      go_wp2_with fail
      go_ret
      exact ⟨ret_bool (by rw [HR.out]; simp), HB2.out⟩

set_option maxRecDepth 100000 in
set_option maxHeartbeats 1000000 in
theorem long_any (v : Value) (t : PTx) (w : World) (hv : TxAt w v t) : Calls Tryz.prog 84 #[v] w (BIs (longOf t) w) := by
  obtain ⟨r, hr⟩ : ∃ r, r = longOf t := ⟨_, rfl⟩
  rw [← hr]
  unfold longOf at hr
  have HR := Lib.hid hr
  clear hr
  obtain ⟨va, vo, rfl, hia, hob, -, -⟩ := hv
  obtain ⟨a, c, rfl, hl1, hl2⟩ := hia.shape
  obtain ⟨a', c', rfl, hl1', hl2'⟩ := hob.shape
  rw [maxLen_eq] at hl2 hl2'
  have htb := TB.start hia hob
  have HTB := Lib.hid htb
  clear htb hia hob
  go_enter Tryz.func84, Tryz.ntmps84
  go_upto_region 1 with fail
  generalize w.alloc (.cells #[.int .u32 t.ver, .slice a t.ins.length c, .slice a' t.outs.length c', .int .u32 t.lock] 35) = w0 at *
  refine wp_region_lit ?_
  refine wpList_run (w' := w0.alloc (.cells #[.nilFunc] 186)) (v := .pointer (some ⟨w0.heap.size, 0, none⟩)) rfl (by kernel_rfl) ?_
  have hx := heap_alloc_new w0 (.cells #[.nilFunc] 186)
  have hbx : Below w0.heap.size w0 (w0.alloc (.cells #[.nilFunc] 186)) := (Below.refl _ _).alloc (Nat.le_refl _) _
  have HTX := Lib.hid (HTB.out.next hbx)
  have hlt := HTB.out.lt
  clear HTB hbx
  obtain ⟨X, hX⟩ : ∃ X, X = w0.heap.size := ⟨_, rfl⟩
  rw [← hX] at hx hlt ⊢
  generalize w0.alloc (.cells #[.nilFunc] 186) = wx at *
  have e0 : wx.cell? ⟨X, 0, none⟩ = some .nilFunc := cell_at hx
  have f0 : wx.frozen? ⟨X, 0, none⟩ = false := free_at hx
  have HX := Lib.hid hx
  clear hx hX
  go_upto_region 2 with fail
  have q1 := heap_setCell_at (j := 0) (u := .func (.func 99) #[] #[]) HX.out
  have htx := HTX.out.next' (w' := wx.setCell ⟨X, 0, none⟩ (.func (.func 99) #[] #[])) ((Below.refl _ _).setCell (p := ⟨X, 0, none⟩) (show w.heap.size + 1 ≤ X from hlt) _)
  generalize wx.setCell ⟨X, 0, none⟩ (.func (.func 99) #[] #[]) = wy at *
  have c1 : wy.cell? ⟨w.heap.size, 1, none⟩ = some (.slice a t.ins.length c) := cell_at htx.box
  have c2 : wy.cell? ⟨w.heap.size, 2, none⟩ = some (.slice a' t.outs.length c') := cell_at htx.box
  have x0 : wy.cell? ⟨X, 0, none⟩ = some (.func (.func 99) #[] #[]) := cell_at q1
  have HQ := Lib.hid x0
  have HTY := Lib.hid htx
  have HC1 := Lib.hid (conLngO _ t.outs (fun x => decide (40 < x.script.size)) wy htx.outs (fun w' v' y hb hy => lng2_any v' y w' hy))
  have hc2 : ∀ w', Below wy.heap.size wy w' → Calls Tryz.prog 53 #[.slice a t.ins.length c, .func (.func 102) #[] #[.pointer (some ⟨X, 0, none⟩)]] w' fun e w'' => e = .returned (.bool (t.ins.any longIn)) ∧ Below w'.heap.size w' w'' := fun w' hb =>
    conLngI _ t.ins _ longIn w' (htx.next hb).ins (fun w'' v' y hb' hy => lng3_any v' X y w'' hy (below_cells hb' _ _ (below_cells hb _ _ HQ.out)))
  have HC2 := Lib.hid hc2
  have HB := Lib.hid htx.bel
  clear htx q1 hc2 e0 f0 hlt HTX HX HTY
  generalize (t.outs.any fun x => decide (40 < x.script.size)) = b1 at *
  generalize t.ins.any longIn = b2 at *
  generalize t.ins.length = n at *
  generalize t.outs.length = n' at *
  cases b1
  · go_wp2_with fail
    refine HC1.out.mono ?_
    rintro e w' ⟨rfl, hb⟩
    have c1' := below_cells hb _ _ c1
    have HB2 := Lib.hid (HB.out.trans (hb.mono HB.out.size))
    have HC2 := Lib.hid (HC2.out w' hb)
    clear hb c1
    go_wp2_with fail
    refine HC2.out.mono ?_
    rintro e w' ⟨rfl, hb⟩
    have HB3 := Lib.hid (HB2.out.trans (hb.mono HB2.out.size))
    clear hb
    go_wp2_with fail
    go_ret
    exact ⟨ret_bool (by rw [HR.out]; rfl), HB3.out⟩
  · go_wp2_with fail
    refine HC1.out.mono ?_
    rintro e w' ⟨rfl, hb⟩
    have HB2 := Lib.hid (HB.out.trans (hb.mono HB.out.size))
    clear hb
    go_wp2_with fail
    go_ret
    exact ⟨ret_bool (by rw [HR.out]; rfl), HB2.out⟩

theorem all_step {α : Type} {p : α → Bool} {xs : List α} {k : Nat} {x : α} (h : ∀ (j : Nat) (y : α), j < k → xs[j]? = some y → p y = true) (hx : xs[k]? = some x) (hp : p x = true) : ∀ (j : Nat) (y : α), j < k + 1 → xs[j]? = some y → p y = true := by
  intro j y hj hy
  rcases Nat.lt_or_ge j k with h1 | h1
  · exact h j y h1 hy
  · obtain rfl : j = k := by omega
    rw [hx] at hy
    obtain rfl := Option.some.inj hy
    exact hp
theorem all_no {α : Type} {p : α → Bool} {xs : List α} {k : Nat} {x : α} (hx : xs[k]? = some x) (hp : p x = false) : xs.all p = false := by
  cases h : xs.all p
  · rfl
  · rw [List.all_eq_true] at h
    rw [h x (List.mem_of_getElem? hx)] at hp
    cases hp
theorem all_yes {α : Type} {p : α → Bool} {xs : List α} {n : Nat} (hn : n = xs.length) (h : ∀ (j : Nat) (y : α), j < n → xs[j]? = some y → p y = true) : xs.all p = true := by
  rw [List.all_eq_true]
  intro x hx
  obtain ⟨j, hj, rfl⟩ := List.getElem_of_mem hx
  exact h j _ (by omega) (List.getElem?_eq_getElem hj)
set_option maxRecDepth 100000 in
set_option maxHeartbeats 2000000 in
theorem formed_any (v : Value) (t : PTx) (w : World) (hv : TxAt w v t) : Calls Tryz.prog 85 #[v] w (BIs (formedOf t) w) := by
  obtain ⟨va, vo, rfl, hia, hob, -, -⟩ := hv
  obtain ⟨a, c, rfl, hl1, hl2⟩ := hia.shape
  rw [maxLen_eq] at hl2
  have htb := TB.start hia hob
  have HTB := Lib.hid htb
  clear htb hia hob
  obtain ⟨n, hn⟩ : ∃ n, n = t.ins.length := ⟨_, rfl⟩
  obtain ⟨r, hr⟩ : ∃ r, r = formedOf t := ⟨_, rfl⟩
  rw [← hr]
  unfold formedOf at hr
  rw [← hn] at hr hl1 HTB ⊢
  have HR := Lib.hid hr
  have HN := Lib.hid hn
  clear hr hn
  go_enter Tryz.func85, Tryz.ntmps85
  go_upto_region 1 with fail
  generalize w.alloc (.cells #[.int .u32 t.ver, .slice a n c, vo, .int .u32 t.lock] 35) = w0 at *
  have c1 : w0.cell? ⟨w.heap.size, 1, none⟩ = some (.slice a n c) := cell_at HTB.out.box
  go_wp2_with fail
  go_loopg [8] n (fun g i wr => ∃ (k : Nat), g = n - k ∧ k ≤ n ∧ i = .int .i64 k ∧ TB w (.slice a n c) vo t wr ∧ ∀ (j : Nat) (y : PIn), j < k → t.ins[j]? = some y → formIn n y = true)
  case atStart => exact ⟨0, rfl, by omega, rfl, HTB.out, fun j y hj => absurd hj (Nat.not_lt_zero _)⟩
  case round =>
    clear HTB c1
    rename World => wo
    obtain ⟨k, hgk, hk, rfl, htb, hall⟩ := hrel
    have HGK := Lib.hid hgk
    have HTB := Lib.hid htb
    have HALL := Lib.hid hall
    clear hgk htb hall
    by_cases hlt : k < n
    · obtain ⟨b, o, x, wv, rfl, hx, hseq, hidx, hid, hwv, d0, d1, d2, d3⟩ := HTB.out.ins.inp hlt
      obtain ⟨wa, wc, rfl, -, -⟩ := hwv.shape
      have HX := Lib.hid hx
      clear hx hwv
      generalize x.wit.length = wl at *
      go_upto_region 4 with fail
      have hx0 := heap_alloc_new wo (.cells #[.string x.id, .int .u32 x.idx, .int .u32 x.seq, .slice wa wl wc] 56)
      have hbx : Below wo.heap.size wo (wo.alloc (.cells #[.string x.id, .int .u32 x.idx, .int .u32 x.seq, .slice wa wl wc] 56)) := (Below.refl _ _).alloc (Nat.le_refl _) _
      generalize wo.alloc (.cells #[.string x.id, .int .u32 x.idx, .int .u32 x.seq, .slice wa wl wc] 56) = wx at *
      have htx := HTB.out.next hbx
      have HT := Lib.hid htx
      have e0 : wx.cell? ⟨wo.heap.size, 0, none⟩ = some (.string x.id) := cell_at hx0
      have e1 : wx.cell? ⟨wo.heap.size, 1, none⟩ = some (.int .u32 x.idx) := cell_at hx0
      have c1 : wx.cell? ⟨w.heap.size, 1, none⟩ = some (.slice (some ⟨b, o, none⟩) n c) := cell_at htx.box
      obtain ⟨C, hC⟩ : ∃ C : World → Prop, C = fun w' => Below wx.heap.size wx w' := ⟨_, rfl⟩
      have k0 : ∀ y : Kin C, y.w.cell? ⟨wo.heap.size, 0, none⟩ = some (.string x.id) := by
        intro ⟨y, h⟩; subst hC; exact below_cells h _ _ e0
      have k1 : ∀ y : Kin C, y.w.cell? ⟨wo.heap.size, 1, none⟩ = some (.int .u32 x.idx) := by
        intro ⟨y, h⟩; subst hC; exact below_cells h _ _ e1
      have k2 : ∀ y : Kin C, y.w.cell? ⟨w.heap.size, 1, none⟩ = some (.slice (some ⟨b, o, none⟩) n c) := by
        intro ⟨y, h⟩; subst hC; exact below_cells h _ _ c1
      have hqb : ∀ y : Kin C, Calls Tryz.prog 55 #[] y.w fun e w' => e = .returned (.agg #[.string zeros32, .int .u32 4294967295]) ∧ C w' := by
        intro y
        refine (base_any y.w).mono ?_
        rintro e w' ⟨rfl, hb⟩
        obtain ⟨y, h⟩ := y
        subst hC
        exact ⟨rfl, h.trans (hb.mono h.size)⟩
      have HQB := Lib.hid hqb
      have HC := Lib.hid hC
      clear hC hqb htx hbx hx0 d0 d1 d2 d3
      have hgp := guardPt
      by_cases h32 : x.id.size = 32
      · have hz0 : (x.id.size : Int) = 32 := by omega
        cases hbs : isBase x.id x.idx
        · have heq : ∀ w : World, (Op.equalIn 10000 46 (.agg #[.string x.id, .int .u32 x.idx]) (.agg #[.string zeros32, .int .u32 4294967295])).run Tryz.prog w = .ok false w := fun w => hbs ▸ eqIn_base x.id x.idx w
          refine wp_region_kin C (by kernel_rfl) (by kernel_rfl) (by rw [HC.out]; exact ⟨rfl, rfl, rfl, Nat.le_refl _, fun _ _ => rfl⟩) ?_
          intro hne
          repeat (first | (go_big_quiet_step (first | (rename_i y; go_at_call 55; exact Calls.kin (HQB.out y) (fun w' h => h)))) | (quiet_step (first | (rename_i y; go_at_call 55; exact Calls.kin (HQB.out y) (fun w' h => h)))))
          refine wpQuiet_nil ?_
          intro _ hw'
          obtain ⟨kx, hw''⟩ := hw'
          subst hw''
          obtain ⟨wy, hxc⟩ := kx
          rw [HC.out] at hxc
          have HTY := Lib.hid (HT.out.next hxc)
          clear hxc k0 k1 k2
          have HNX := Lib.hid (all_step HALL.out HX.out (by unfold formIn; rw [decide_eq_true h32, hbs]; rfl))
          go_wp2_with fail
          go_roundg (n - (k + 1))
          case measure => have := HGK.out; omega
          case rel => exact ⟨k + 1, rfl, by omega, by go_num, HTY.out, HNX.out⟩
        · have heq : ∀ w : World, (Op.equalIn 10000 46 (.agg #[.string x.id, .int .u32 x.idx]) (.agg #[.string zeros32, .int .u32 4294967295])).run Tryz.prog w = .ok true w := fun w => hbs ▸ eqIn_base x.id x.idx w
          by_cases hn1 : 1 < n
          · refine wp_region_kin C (by kernel_rfl) (by kernel_rfl) (by rw [HC.out]; exact ⟨rfl, rfl, rfl, Nat.le_refl _, fun _ _ => rfl⟩) ?_
            intro hne
            repeat (first | (go_big_quiet_step (first | (rename_i y; go_at_call 55; exact Calls.kin (HQB.out y) (fun w' h => h)))) | (quiet_step (first | (rename_i y; go_at_call 55; exact Calls.kin (HQB.out y) (fun w' h => h)))))
            refine wpQuiet_nil ?_
            intro _ hw'
            obtain ⟨kx, hw''⟩ := hw'
            subst hw''
            obtain ⟨wy, hxc⟩ := kx
            rw [HC.out] at hxc
            have HTY := Lib.hid (HT.out.next hxc)
            clear hxc k0 k1 k2
            have HF := Lib.hid (all_no HX.out (show formIn n x = false by unfold formIn; rw [decide_eq_true h32, hbs, decide_eq_true hn1]; rfl))
            go_wp2_with fail
            go_ret
            exact ⟨ret_bool (by rw [HR.out, HF.out]), HTY.out.bel⟩
          · refine wp_region_kin C (by kernel_rfl) (by kernel_rfl) (by rw [HC.out]; exact ⟨rfl, rfl, rfl, Nat.le_refl _, fun _ _ => rfl⟩) ?_
            intro hne
            repeat (first | (go_big_quiet_step (first | (rename_i y; go_at_call 55; exact Calls.kin (HQB.out y) (fun w' h => h)))) | (quiet_step (first | (rename_i y; go_at_call 55; exact Calls.kin (HQB.out y) (fun w' h => h)))))
            refine wpQuiet_nil ?_
            intro _ hw'
            obtain ⟨kx, hw''⟩ := hw'
            subst hw''
            obtain ⟨wy, hxc⟩ := kx
            rw [HC.out] at hxc
            have HTY := Lib.hid (HT.out.next hxc)
            clear hxc k0 k1 k2
            have HNX := Lib.hid (all_step HALL.out HX.out (by unfold formIn; rw [decide_eq_true h32, hbs, decide_eq_false hn1]; rfl))
            go_wp2_with fail
            go_roundg (n - (k + 1))
            case measure => have := HGK.out; omega
            case rel => exact ⟨k + 1, rfl, by omega, by go_num, HTY.out, HNX.out⟩
      · have hz0 : (x.id.size : Int) ≠ 32 := by omega
        refine wp_region_kin C (by kernel_rfl) (by kernel_rfl) (by rw [HC.out]; exact ⟨rfl, rfl, rfl, Nat.le_refl _, fun _ _ => rfl⟩) ?_
        intro hne
        repeat (first | (go_big_quiet_step (fail)) | (quiet_step (fail)))
        refine wpQuiet_nil ?_
        intro _ hw'
        obtain ⟨kx, hw''⟩ := hw'
        subst hw''
        obtain ⟨wy, hxc⟩ := kx
        rw [HC.out] at hxc
        have HTY := Lib.hid (HT.out.next hxc)
        clear hxc k0 k1 k2
        have HF := Lib.hid (all_no HX.out (show formIn n x = false by unfold formIn; rw [decide_eq_false h32, Bool.false_and]))
        go_wp2_with fail
        go_ret
        exact ⟨ret_bool (by rw [HR.out, HF.out]), HTY.out.bel⟩
    · obtain rfl : k = n := by omega
      have HF := Lib.hid (all_yes HN.out HALL.out)
      go_wp2_with fail
      go_ret
      exact ⟨ret_bool (by rw [HR.out, HF.out]), HTB.out.bel⟩
end Go.Proofs.YtelindgnkpfkiaaGreatDoor
end
