/-
  The document's reserves: a key's place, is a point leased, a point's place among coins. Conditions: the leases lie in memory, the coins do.
-/
import Derived.Test.YtelindgnkpfkiaaVp
namespace Go.Proofs.Ytelindgnkpfkiaa
open Go.RowKit Go.BigFrame Go.Maps
set_option linter.unusedVariables false
set_option linter.unusedSimpArgs false

structure LsOk (e : Int × Pt) : Prop where
  key : -9223372036854775808 ≤ e.1 ∧ e.1 ≤ 9223372036854775807
  id : e.2.1.size ≤ maxLen
  idx : e.2.2 < 4294967296
def lsRow (e : Int × Pt) : List Value := [.int .i64 e.1, .string e.2.1, .int .u32 e.2.2]
def rpLs : Rp (Int × Pt) := ⟨3, fun _ cs e => cs = lsRow e ∧ LsOk e, fun _ h => h⟩
theorem SlAt.ls {w : World} {a : Option Addr} {n c i : Nat} {xs : PLs} (h : SlAt rpLs w (.slice a n c) xs) (hi : i < n) : ∃ (b o : Nat) (e : Int × Pt), a = some ⟨b, o, none⟩ ∧ xs[i]? = some e ∧ LsOk e ∧
    w.cell? ⟨b, o + i * 3, none⟩ = some (.int .i64 e.1) ∧ w.cell? ⟨b, o + i * 3 + 1, none⟩ = some (.string e.2.1) ∧ w.cell? ⟨b, o + i * 3 + 2, none⟩ = some (.int .u32 e.2.2) := by
  obtain ⟨b, o, x, cs, h1, h2, h3, h4, h5, h6⟩ := h.at hi
  subst h5
  exact ⟨b, o, x, h1, h2, h6, h4 0 _ rfl, h4 1 _ rfl, h4 2 _ rfl⟩
def idxV (o : Option Nat) : Int := match o with | none => -1 | some i => (i : Int)
theorem find_miss {α : Type} {p : α → Bool} {xs : List α} {n : Nat} (hn : n = xs.length) (h : ∀ (j : Nat) (y : α), j < n → xs[j]? = some y → p y = false) : xs.findIdx? p = none := by
  rw [List.findIdx?_eq_none_iff]
  intro x hx
  obtain ⟨j, hj, rfl⟩ := List.getElem_of_mem hx
  exact h j _ (by omega) (List.getElem?_eq_getElem hj)
theorem find_hit {α : Type} {p : α → Bool} {xs : List α} {k : Nat} {x : α} (h : ∀ (j : Nat) (y : α), j < k → xs[j]? = some y → p y = false) (hx : xs[k]? = some x) (hp : p x = true) : xs.findIdx? p = some k := by
  obtain ⟨hk, e⟩ := List.getElem?_eq_some_iff.1 hx
  rw [List.findIdx?_eq_some_iff_getElem]
  refine ⟨hk, by rw [e]; exact hp, fun j hj => ?_⟩
  rw [h j xs[j] hj (List.getElem?_eq_getElem (by omega))]
  decide
theorem find_fst {α : Type} {p : α → Bool} {xs : List α} {o : Option Nat} (h : xs.findIdx? p = o) : xs.find? p = o.bind fun i => xs[i]? := by
  rw [← h]
  cases hf : xs.findIdx? p with
  | none =>
    rw [List.findIdx?_eq_none_iff] at hf
    rw [List.find?_eq_none.2 (fun x hx => by rw [hf x hx]; decide)]
    rfl
  | some i =>
    rw [List.findIdx?_eq_some_iff_getElem] at hf
    obtain ⟨hi, h1, h2⟩ := hf
    show _ = xs[i]?
    rw [List.getElem?_eq_getElem hi, List.find?_eq_some_iff_getElem]
    exact ⟨h1, i, hi, rfl, fun j hj => by have := h2 j hj; simpa using this⟩
def IdxP (o : Option Nat) (w : World) (e : Ending) (w' : World) : Prop := e = .returned (.int .i64 (idxV o)) ∧ Below w.heap.size w w'
set_option maxRecDepth 100000 in
set_option maxHeartbeats 2000000 in
theorem rfind_any (tag : Nat) (sv : Value) (L : PLs) (key : Int) (w : World) (hsv : SlAt rpLs w sv L) : Calls Try.prog 32 #[.agg #[.int .u16 tag, sv], .int .i64 key] w (IdxP (findI L key) w) := by
  have HSL := Lib.hid hsv
  obtain ⟨a, c, rfl, hl1, hl2⟩ := hsv.shape
  rw [maxLen_eq] at hl2
  obtain ⟨n, hn⟩ : ∃ n, n = L.length := ⟨_, rfl⟩
  rw [← hn] at hl1 HSL ⊢
  have HN := Lib.hid hn
  clear hn hsv
  go_enter Try.func32, Try.ntmps32
  go_upto_region 1 with fail
  have hz := heap_alloc_new w (.cells #[.int .u16 tag, .slice a n c] 61)
  have hal : Below w.heap.size w (w.alloc (.cells #[.int .u16 tag, .slice a n c] 61)) := (Below.refl _ _).alloc (Nat.le_refl _) _
  obtain ⟨X, hX⟩ : ∃ q, q = w.heap.size := ⟨_, rfl⟩
  rw [← hX] at hz ⊢
  generalize w.alloc (.cells #[.int .u16 tag, .slice a n c] 61) = w0 at *
  have c1 : w0.cell? ⟨X, 1, none⟩ = some (.slice a n c) := cell_at hz
  have HSL := Lib.hid (HSL.out.below hal)
  have HB := Lib.hid hal
  clear hz hal hX
  go_wp2_with fail
  go_loopg [5] n (fun g i wr => ∃ k : Nat, g = n - k ∧ k ≤ n ∧ i = .int .i64 k ∧ wr = w0 ∧ ∀ (j : Nat) (y : Int × Pt), j < k → L[j]? = some y → decide (y.1 = key) = false)
  case atStart => exact ⟨0, rfl, by omega, rfl, rfl, fun j y hj => absurd hj (Nat.not_lt_zero _)⟩
  case round =>
    obtain ⟨k, hgk, hk, rfl, rfl, hno⟩ := hrel
    have HGK := Lib.hid hgk
    have HNO := Lib.hid hno
    clear hgk hno
    rename World => wo
    by_cases hlt : k < n
    · obtain ⟨b, o, e, rfl, he, -, d0, d1, d2⟩ := HSL.out.ls hlt
      have HE := Lib.hid he
      clear he
      by_cases hkey : e.1 = key
      · have HF := Lib.hid (show findI L key = some k from find_hit HNO.out HE.out (decide_eq_true hkey))
        go_wp2_with fail
        go_ret
        exact ⟨by rw [HF.out]; rfl, HB.out⟩
      · have HNX := Lib.hid (before_step HNO.out HE.out (decide_eq_false hkey))
        go_wp2_with fail
        go_roundg (n - (k + 1))
        case measure => have := HGK.out; omega
        case rel => exact ⟨k + 1, rfl, by omega, by go_num, rfl, HNX.out⟩
    · obtain rfl : k = n := by omega
      have HF := Lib.hid (show findI L key = none from find_miss HN.out HNO.out)
      go_wp2_with fail
      go_ret
      exact ⟨by rw [HF.out]; rfl, HB.out⟩
theorem pt_ne {a b : Pt} (h : a ≠ b) : a.1 ≠ b.1 ∨ (a.1 = b.1 ∧ a.2 ≠ b.2) := by
  by_cases h1 : a.1 = b.1
  · exact .inr ⟨h1, fun h2 => h (Prod.ext h1 h2)⟩
  · exact .inl h1
set_option maxRecDepth 100000 in
set_option maxHeartbeats 2000000 in
theorem rtaken_any (tag : Nat) (sv : Value) (L : PLs) (p : Pt) (w : World) (hsv : SlAt rpLs w sv L) (hp : p.2 < 4294967296) : Calls Try.prog 33 #[.agg #[.int .u16 tag, sv], .agg #[.string p.1, .int .u32 p.2]] w (BIs (takenL L p) w) := by
  have HSL := Lib.hid hsv
  obtain ⟨a, c, rfl, hl1, hl2⟩ := hsv.shape
  rw [maxLen_eq] at hl2
  obtain ⟨n, hn⟩ : ∃ n, n = L.length := ⟨_, rfl⟩
  rw [← hn] at hl1 HSL ⊢
  have HN := Lib.hid hn
  clear hn hsv
  go_enter Try.func33, Try.ntmps33
  go_upto_region 1 with fail
  obtain ⟨X, hX⟩ : ∃ q, q = w.heap.size := ⟨_, rfl⟩
  have hnews := new2 w X hX (.cells #[.int .u16 tag, .slice a n c] 61) (.cells #[.string p.1, .int .u32 p.2] 35)
  rw [← hX]
  generalize ((w.alloc (.cells #[.int .u16 tag, .slice a n c] 61)).alloc (.cells #[.string p.1, .int .u32 p.2] 35)) = w0 at *
  obtain ⟨hz0, hz1, hal⟩ := hnews
  have HZ0 := Lib.hid hz0
  have HZ1 := Lib.hid hz1
  have HB := Lib.hid hal
  clear hz0 hz1 hal hX
  have c1 : w0.cell? ⟨X, 1, none⟩ = some (.slice a n c) := cell_at HZ0.out
  go_wp2_with fail
  go_loopg [5] n (fun g i wr => ∃ k : Nat, g = n - k ∧ k ≤ n ∧ i = .int .i64 k ∧ Below w.heap.size w wr ∧ wr.heap[X]? = some (.cells #[.int .u16 tag, .slice a n c] 61 (0, 0)) ∧ wr.heap[X + 1]? = some (.cells #[.string p.1, .int .u32 p.2] 35 (0, 0)) ∧ ∀ (j : Nat) (y : Int × Pt), j < k → L[j]? = some y → decide (y.2 = p) = false)
  case atStart => exact ⟨0, rfl, by omega, rfl, HB.out, HZ0.out, HZ1.out, fun j y hj => absurd hj (Nat.not_lt_zero _)⟩
  case round =>
    clear HB HZ0 HZ1 c1
    rename World => wo
    obtain ⟨k, hgk, hk, rfl, hb, hz0, hz1, hno⟩ := hrel
    have HGK := Lib.hid hgk
    have HNO := Lib.hid hno
    have HB := Lib.hid hb
    have HZ0 := Lib.hid hz0
    have HZ1 := Lib.hid hz1
    have c1 : wo.cell? ⟨X, 1, none⟩ = some (.slice a n c) := cell_at hz0
    have p0 : wo.cell? ⟨X + 1, 0, none⟩ = some (.string p.1) := cell_at hz1
    have p1 : wo.cell? ⟨X + 1, 1, none⟩ = some (.int .u32 p.2) := cell_at hz1
    clear hgk hno hb hz0 hz1
    by_cases hlt : k < n
    · obtain ⟨b, o, e, rfl, he, hok, d0, d1, d2⟩ := (HSL.out.below HB.out).ls hlt
      have HE := Lib.hid he
      have hei := hok.idx
      clear he hok
      go_upto_region 4 with fail
      by_cases hkey : e.2 = p
      · have HF := Lib.hid (show takenL L p = true from List.any_eq_true.2 ⟨e, List.mem_of_getElem? HE.out, decide_eq_true hkey⟩)
        have hbe : (e.2.1.toList == p.1.toList) = true := by rw [hkey]; exact beq_self_eq_true _
        have hie : (e.2.2 : Int) = (p.2 : Int) := by rw [hkey]
        have hie2 : decide (e.2.2 = p.2) = true := decide_eq_true (by rw [hkey])
        clear hkey
        obtain ⟨C, hC⟩ : ∃ C : World → Prop, C = fun w' => Below wo.heap.size wo w' := ⟨_, rfl⟩
        have kc1 := kin_cell hC c1
        have kp0 := kin_cell hC p0
        have kp1 := kin_cell hC p1
        have kd0 := kin_cell hC d0
        have kd1 := kin_cell hC d1
        have kd2 := kin_cell hC d2
        have HC := Lib.hid hC
        clear hC
        refine wp_region_kin C (by kernel_rfl) (by kernel_rfl) (by rw [HC.out]; exact ⟨rfl, rfl, rfl, Nat.le_refl _, fun _ _ => rfl⟩) ?_
        intro hne
        repeat (first | (go_big_quiet_step (fail)) | (quiet_step (fail)))
        refine wpQuiet_nil ?_
        intro _ hw'
        obtain ⟨kx, hw''⟩ := hw'
        subst hw''
        obtain ⟨w1, hxc⟩ := kx
        rw [HC.out] at hxc
        clear HC hne kc1 kp0 kp1 kd0 kd1 kd2
        have HB1 := Lib.hid (HB.out.trans (hxc.mono HB.out.size))
        clear hxc
        go_wp2_with fail
        go_ret
        exact ⟨ret_bool HF.out.symm, HB1.out⟩
      · have HNX := Lib.hid (before_step HNO.out HE.out (decide_eq_false hkey))
        rcases pt_ne hkey with h1 | ⟨h1, h2⟩
        · have hbe := vbytes_ne h1
          clear hkey h1
          obtain ⟨C, hC⟩ : ∃ C : World → Prop, C = fun w' => Below wo.heap.size wo w' := ⟨_, rfl⟩
          have kc1 := kin_cell hC c1
          have kp0 := kin_cell hC p0
          have kp1 := kin_cell hC p1
          have kd0 := kin_cell hC d0
          have kd1 := kin_cell hC d1
          have kd2 := kin_cell hC d2
          have HC := Lib.hid hC
          clear hC
          refine wp_region_kin C (by kernel_rfl) (by kernel_rfl) (by rw [HC.out]; exact ⟨rfl, rfl, rfl, Nat.le_refl _, fun _ _ => rfl⟩) ?_
          intro hne
          repeat (first | (go_big_quiet_step (fail)) | (quiet_step (fail)))
          refine wpQuiet_nil ?_
          intro _ hw'
          obtain ⟨kx, hw''⟩ := hw'
          subst hw''
          obtain ⟨w1, hxc⟩ := kx
          rw [HC.out] at hxc
          clear HC hne kc1 kp0 kp1 kd0 kd1 kd2
          have HB1 := Lib.hid (HB.out.trans (hxc.mono HB.out.size))
          have HZ0 := Lib.hid (stay HZ0.out hxc)
          have HZ1 := Lib.hid (stay HZ1.out hxc)
          clear hxc c1 p0 p1 d0 d1 d2
          go_wp2_with fail
          go_roundg (n - (k + 1))
          case measure => have := HGK.out; omega
          case rel => exact ⟨k + 1, rfl, by omega, by go_num, HB1.out, HZ0.out, HZ1.out, HNX.out⟩
        · have hbe : (e.2.1.toList == p.1.toList) = true := by rw [h1]; exact beq_self_eq_true _
          have hie : ¬ ((e.2.2 : Int) = (p.2 : Int)) := by omega
          have hie2 : decide (e.2.2 = p.2) = false := decide_eq_false h2
          clear hkey h1
          obtain ⟨C, hC⟩ : ∃ C : World → Prop, C = fun w' => Below wo.heap.size wo w' := ⟨_, rfl⟩
          have kc1 := kin_cell hC c1
          have kp0 := kin_cell hC p0
          have kp1 := kin_cell hC p1
          have kd0 := kin_cell hC d0
          have kd1 := kin_cell hC d1
          have kd2 := kin_cell hC d2
          have HC := Lib.hid hC
          clear hC
          refine wp_region_kin C (by kernel_rfl) (by kernel_rfl) (by rw [HC.out]; exact ⟨rfl, rfl, rfl, Nat.le_refl _, fun _ _ => rfl⟩) ?_
          intro hne
          repeat (first | (go_big_quiet_step (fail)) | (quiet_step (fail)))
          refine wpQuiet_nil ?_
          intro _ hw'
          obtain ⟨kx, hw''⟩ := hw'
          subst hw''
          obtain ⟨w1, hxc⟩ := kx
          rw [HC.out] at hxc
          clear HC hne kc1 kp0 kp1 kd0 kd1 kd2
          have HB1 := Lib.hid (HB.out.trans (hxc.mono HB.out.size))
          have HZ0 := Lib.hid (stay HZ0.out hxc)
          have HZ1 := Lib.hid (stay HZ1.out hxc)
          clear hxc c1 p0 p1 d0 d1 d2
          go_wp2_with fail
          go_roundg (n - (k + 1))
          case measure => have := HGK.out; omega
          case rel => exact ⟨k + 1, rfl, by omega, by go_num, HB1.out, HZ0.out, HZ1.out, HNX.out⟩
    · obtain rfl : k = n := by omega
      have HF := Lib.hid (show takenL L p = false from any_no (p := fun e : Int × Pt => decide (e.2 = p)) HN.out HNO.out)
      go_wp2_with fail
      go_ret
      exact ⟨ret_bool HF.out.symm, HB.out⟩
set_option maxRecDepth 100000 in
set_option maxHeartbeats 2000000 in
theorem rsame10_any (p q : Pt) (hp : p.2 < 4294967296) (hq : q.2 < 4294967296) (w : World) : Calls Try.prog 46 #[.agg #[.string p.1, .int .u32 p.2], .agg #[.string q.1, .int .u32 q.2]] w (BIs (decide (p = q)) w) := by
  go_enter Try.func46, Try.ntmps46
  go_upto_region 1 with fail
  obtain ⟨X, hX⟩ : ∃ q, q = w.heap.size := ⟨_, rfl⟩
  have hnews := new2 w X hX (.cells #[.string p.1, .int .u32 p.2] 35) (.cells #[.string q.1, .int .u32 q.2] 35)
  rw [← hX]
  generalize ((w.alloc (.cells #[.string p.1, .int .u32 p.2] 35)).alloc (.cells #[.string q.1, .int .u32 q.2] 35)) = w0 at *
  obtain ⟨hz0, hz1, hal⟩ := hnews
  have p0 : w0.cell? ⟨X, 0, none⟩ = some (.string p.1) := cell_at hz0
  have p1 : w0.cell? ⟨X, 1, none⟩ = some (.int .u32 p.2) := cell_at hz0
  have q0 : w0.cell? ⟨X + 1, 0, none⟩ = some (.string q.1) := cell_at hz1
  have q1 : w0.cell? ⟨X + 1, 1, none⟩ = some (.int .u32 q.2) := cell_at hz1
  have HB := Lib.hid hal
  clear hz0 hz1 hal hX
  by_cases hkey : p = q
  · have HK := Lib.hid hkey
    have hbe : (p.1.toList == q.1.toList) = true := by rw [hkey]; exact beq_self_eq_true _
    have hie : (p.2 : Int) = (q.2 : Int) := by rw [hkey]
    have hie2 : decide (p.2 = q.2) = true := decide_eq_true (by rw [hkey])
    clear hkey
    go_wp2_with fail
    go_ret
    exact ⟨ret_bool (decide_eq_true HK.out).symm, HB.out⟩
  · have HK := Lib.hid hkey
    rcases pt_ne hkey with h1 | ⟨h1, h2⟩
    · have hbe := vbytes_ne h1
      clear hkey h1
      go_wp2_with fail
      go_ret
      exact ⟨ret_bool (decide_eq_false HK.out).symm, HB.out⟩
    · have hbe : (p.1.toList == q.1.toList) = true := by rw [h1]; exact beq_self_eq_true _
      have hie : ¬ ((p.2 : Int) = (q.2 : Int)) := by omega
      have hie2 : decide (p.2 = q.2) = false := decide_eq_false h2
      have hie3 : ((p.2 : Int) == (q.2 : Int)) = false := by rw [beq_eq_false_iff_ne]; omega
      clear hkey h1
      go_wp2_with fail
      go_ret
      exact ⟨ret_bool (decide_eq_false HK.out).symm, HB.out⟩
set_option maxRecDepth 100000 in
set_option maxHeartbeats 2000000 in
theorem r10find_any (sv : Value) (l : List PEn) (p : Pt) (w : World) (hsv : SlAt rpEn w sv l) (hp : p.2 < 4294967296) : Calls Try.prog 36 #[sv, .agg #[.string p.1, .int .u32 p.2]] w (IdxP (l.findIdx? fun x => decide (x.pt = p)) w) := by
  have HSL := Lib.hid hsv
  obtain ⟨a, c, rfl, hl1, hl2⟩ := hsv.shape
  rw [maxLen_eq] at hl2
  obtain ⟨n, hn⟩ : ∃ n, n = l.length := ⟨_, rfl⟩
  rw [← hn] at hl1 HSL ⊢
  have HN := Lib.hid hn
  clear hn hsv
  go_enter Try.func36, Try.ntmps36
  go_upto_region 1 with fail
  have hz := heap_alloc_new w (.cells #[.string p.1, .int .u32 p.2] 35)
  have hal : Below w.heap.size w (w.alloc (.cells #[.string p.1, .int .u32 p.2] 35)) := (Below.refl _ _).alloc (Nat.le_refl _) _
  obtain ⟨X, hX⟩ : ∃ q, q = w.heap.size := ⟨_, rfl⟩
  rw [← hX] at hz ⊢
  generalize w.alloc (.cells #[.string p.1, .int .u32 p.2] 35) = w0 at *
  have HZ := Lib.hid hz
  have HB := Lib.hid hal
  clear hz hal hX
  go_wp2_with fail
  go_loopg [5] n (fun g i wr => ∃ k : Nat, g = n - k ∧ k ≤ n ∧ i = .int .i64 k ∧ Below w.heap.size w wr ∧ wr.heap[X]? = some (.cells #[.string p.1, .int .u32 p.2] 35 (0, 0)) ∧ ∀ (j : Nat) (y : PEn), j < k → l[j]? = some y → decide (y.pt = p) = false)
  case atStart => exact ⟨0, rfl, by omega, rfl, HB.out, HZ.out, fun j y hj => absurd hj (Nat.not_lt_zero _)⟩
  case round =>
    clear HB HZ
    rename World => wo
    obtain ⟨k, hgk, hk, rfl, hb, hz, hno⟩ := hrel
    have HGK := Lib.hid hgk
    have HNO := Lib.hid hno
    have HB := Lib.hid hb
    have HZ := Lib.hid hz
    have p0 : wo.cell? ⟨X, 0, none⟩ = some (.string p.1) := cell_at hz
    have p1 : wo.cell? ⟨X, 1, none⟩ = some (.int .u32 p.2) := cell_at hz
    clear hgk hno hb hz
    by_cases hlt : k < n
    · obtain ⟨b, o, x, rfl, hx, hok, d0, d1, d2, d3, d4⟩ := (HSL.out.below HB.out).en hlt
      have HX := Lib.hid hx
      have hxi := hok.idx
      clear hx hok d2 d3 d4
      go_upto_region 4 with fail
      cases hkey : decide (x.pt = p)
      · have HNX := Lib.hid (before_step HNO.out HX.out hkey)
        have HQ := Lib.hid hkey
        clear hkey
        obtain ⟨C, hC⟩ : ∃ C : World → Prop, C = fun w' => Below wo.heap.size wo w' := ⟨_, rfl⟩
        have kp0 := kin_cell hC p0
        have kp1 := kin_cell hC p1
        have kd0 := kin_cell hC d0
        have kd1 := kin_cell hC d1
        have QNc := Lib.hid (kin_call hC fun y h => (HQ.out ▸ rsame10_any x.pt p hxi hp y))
        have HC := Lib.hid hC
        clear hC
        refine wp_region_kin C (by kernel_rfl) (by kernel_rfl) (by rw [HC.out]; exact ⟨rfl, rfl, rfl, Nat.le_refl _, fun _ _ => rfl⟩) ?_
        intro hne
        repeat (first | (go_big_quiet_step ((rename_i y; go_at_call 46; exact Calls.kin (QNc.out y) (fun w' h => h)))) | (quiet_step ((rename_i y; go_at_call 46; exact Calls.kin (QNc.out y) (fun w' h => h)))))
        refine wpQuiet_nil ?_
        intro _ hw'
        obtain ⟨kx, hw''⟩ := hw'
        subst hw''
        obtain ⟨w1, hxc⟩ := kx
        rw [HC.out] at hxc
        clear HC hne kp0 kp1 kd0 kd1
        have HB1 := Lib.hid (HB.out.trans (hxc.mono HB.out.size))
        have HZ := Lib.hid (stay HZ.out hxc)
        clear hxc p0 p1 d0 d1
        go_wp2_with fail
        go_roundg (n - (k + 1))
        case measure => have := HGK.out; omega
        case rel => exact ⟨k + 1, rfl, by omega, by go_num, HB1.out, HZ.out, HNX.out⟩
      · have HF := Lib.hid (find_hit HNO.out HX.out hkey)
        have HQ := Lib.hid hkey
        clear hkey
        obtain ⟨C, hC⟩ : ∃ C : World → Prop, C = fun w' => Below wo.heap.size wo w' := ⟨_, rfl⟩
        have kp0 := kin_cell hC p0
        have kp1 := kin_cell hC p1
        have kd0 := kin_cell hC d0
        have kd1 := kin_cell hC d1
        have QNc := Lib.hid (kin_call hC fun y h => (HQ.out ▸ rsame10_any x.pt p hxi hp y))
        have HC := Lib.hid hC
        clear hC
        refine wp_region_kin C (by kernel_rfl) (by kernel_rfl) (by rw [HC.out]; exact ⟨rfl, rfl, rfl, Nat.le_refl _, fun _ _ => rfl⟩) ?_
        intro hne
        repeat (first | (go_big_quiet_step ((rename_i y; go_at_call 46; exact Calls.kin (QNc.out y) (fun w' h => h)))) | (quiet_step ((rename_i y; go_at_call 46; exact Calls.kin (QNc.out y) (fun w' h => h)))))
        refine wpQuiet_nil ?_
        intro _ hw'
        obtain ⟨kx, hw''⟩ := hw'
        subst hw''
        obtain ⟨w1, hxc⟩ := kx
        rw [HC.out] at hxc
        clear HC hne kp0 kp1 kd0 kd1
        have HB1 := Lib.hid (HB.out.trans (hxc.mono HB.out.size))
        clear hxc
        go_wp2_with fail
        go_ret
        exact ⟨by rw [HF.out]; rfl, HB1.out⟩
    · obtain rfl : k = n := by omega
      have HF := Lib.hid (find_miss (p := fun y : PEn => decide (y.pt = p)) HN.out HNO.out)
      go_wp2_with fail
      go_ret
      exact ⟨by rw [HF.out]; rfl, HB.out⟩
end Go.Proofs.Ytelindgnkpfkiaa
