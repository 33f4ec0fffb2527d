/-
  wire.encode. Conditions: those of Enc.
-/
import Derived.Test.YtmakghcoehkphaaGreatQ6ClaimBuilds
import Derived.Test.YtmakghcoehkphaaGreatTxH
namespace Go.Proofs.YtmakghcoehkphaaGreat
open Go.RowKit Go.BigFrame
set_option linter.unusedVariables false
set_option linter.unusedSimpArgs false

/-- While a transaction is written: its box, the builder with what is written. -/
structure EW (w : World) (va vo : Value) (t : PTx) (L : List UInt8) (wr : World) : Prop where
  tb : TB w va vo t wr
  bld : Lib.IsBuilder 105 5 (w.heap.size + 1) (w.heap.size + 1) (bytesOf L) wr
section
variable {w wr w' : World} {va vo : Value} {t : PTx} {L M : List UInt8}
theorem EW.next (h : EW w va vo t L wr) (hb : Below wr.heap.size wr w') : EW w va vo t L w' := ⟨h.tb.next hb, isb_later h.bld hb⟩
theorem EW.hB (h : EW w va vo t L wr) : w.heap.size + 1 ≤ wr.heap.size := h.tb.lt
theorem EW.lt (h : EW w va vo t L wr) : w.heap.size + 1 < wr.heap.size := (isb_lt h.bld).2
theorem wstr_any (s : ByteArray) (h : EW w va vo t L wr) (hl : L.length + s.size ≤ 140737488355328) :
    Calls Tryz.prog 57 #[.pointer (some ⟨w.heap.size + 1, 0, none⟩), .string s] wr fun e w' => (∃ v, e = .returned v) ∧ EW w va vo t (L ++ s.data.toList) w' ∧ BKeep (w.heap.size + 1) wr w' := by
  refine (bwrite_x _ _ L s wr h.bld hl h.hB).mono ?_
  rintro e w' ⟨rfl, hi, hb, hk⟩
  exact ⟨⟨_, rfl⟩, ⟨h.tb.next' hb, hi⟩, hk⟩
theorem wlst_any (M : List UInt8) (h : EW w va vo t L wr) (hl : L.length + M.length ≤ 140737488355328) :
    Calls Tryz.prog 57 #[.pointer (some ⟨w.heap.size + 1, 0, none⟩), .string (bL M)] wr fun e w' => (∃ v, e = .returned v) ∧ EW w va vo t (L ++ M) w' ∧ BKeep (w.heap.size + 1) wr w' := by
  have h1 := wstr_any (bL M) h (by rw [bL_size]; exact hl)
  rw [bL_list] at h1
  exact h1
theorem wput_any (n k : Nat) (h : EW w va vo t L wr) (hn : n < 18446744073709551616) (hk : okSize k) (hl : L.length ≤ 1000000) :
    Calls Tryz.prog 136 #[.int .u64 n, .int .i64 k, .pointer (some ⟨w.heap.size + 1, 0, none⟩)] wr fun e w' => (∃ v, e = .returned v) ∧ EW w va vo t (L ++ leB n k) w' ∧ BKeep (w.heap.size + 1) wr w' := by
  refine (eput_any _ _ n k L hn hk wr h.bld hl h.hB).mono ?_
  rintro e w' ⟨hv, hp⟩
  exact ⟨hv, ⟨h.tb.next' hp.2.1, hp.1⟩, hp.2.2⟩
end
/-- A box beside the builder. -/
structure XB (b X : Nat) (cs : Array Value) (T : TypeId) (wr : World) : Prop where
  box : wr.heap[X]? = some (.cells cs T (0, 0))
  ne : X ≠ b
  row : RowNot b X wr
theorem XB.lt {b X : Nat} {cs : Array Value} {T : TypeId} {wr : World} (h : XB b X cs T wr) : X < wr.heap.size := (Array.getElem?_eq_some_iff.1 h.box).1
theorem XB.keep {b X : Nat} {cs : Array Value} {T : TypeId} {wr w' : World} (h : XB b X cs T wr) (hk : BKeep b wr w') : XB b X cs T w' := by
  obtain ⟨e, r, -⟩ := hk X h.ne h.lt h.row
  exact ⟨e.trans h.box, h.ne, r⟩
theorem XB.next {b X : Nat} {cs : Array Value} {T : TypeId} {wr w' : World} (h : XB b X cs T wr) (hb : Below wr.heap.size wr w') (hlt : b < wr.heap.size) : XB b X cs T w' := h.keep (BKeep.of_below hb hlt)
def preA (t : PTx) (b : Bool) : List UInt8 := leB t.ver 4 ++ markL b ++ vintL t.ins.length
def preB (t : PTx) (b : Bool) (k : Nat) : List UInt8 := preA t b ++ (t.ins.take k).flatMap inB
def preC (t : PTx) (b : Bool) : List UInt8 := preA t b ++ t.ins.flatMap inB ++ vintL t.outs.length
def preD (t : PTx) (b : Bool) (k : Nat) : List UInt8 := preC t b ++ (t.outs.take k).flatMap outB
def preE (t : PTx) (b : Bool) : List UInt8 := preC t b ++ t.outs.flatMap outB
def preF (t : PTx) (b : Bool) (k : Nat) : List UInt8 := preE t b ++ (t.ins.take k).flatMap witB
theorem preA_le (t : PTx) (b : Bool) : (preA t b).length ≤ 20 := by
  unfold preA markL
  have := vintL_le t.ins.length
  simp only [List.length_append, leB_length]
  split <;> simp <;> omega
theorem preB_le {t : PTx} (he : Enc t) (b : Bool) (k : Nat) : (preB t b k).length ≤ 20000 := by
  unfold preB
  have h1 := preA_le t b
  have h2 := flat_take_le inB 60 t.ins k fun x hx => inB_le (he.ids x hx).1
  have := he.ins
  rw [List.length_append]
  omega
theorem preC_le {t : PTx} (he : Enc t) (b : Bool) : (preC t b).length ≤ 20000 := by
  unfold preC
  have h1 := preA_le t b
  have h2 := flat_le inB 60 t.ins fun x hx => inB_le (he.ids x hx).1
  have h3 := vintL_le t.outs.length
  have := he.ins
  simp only [List.length_append]
  omega
theorem preD_le {t : PTx} (he : Enc t) (b : Bool) (k : Nat) : (preD t b k).length ≤ 40000 := by
  unfold preD
  have h1 := preC_le he b
  have h2 := flat_take_le outB 60 t.outs k fun x hx => outB_le (he.vals x hx).2
  have := he.outs
  rw [List.length_append]
  omega
theorem preE_le {t : PTx} (he : Enc t) (b : Bool) : (preE t b).length ≤ 40000 := by
  unfold preE
  have h1 := preC_le he b
  have h2 := flat_le outB 60 t.outs fun x hx => outB_le (he.vals x hx).2
  have := he.outs
  rw [List.length_append]
  omega
theorem preF_le {t : PTx} (he : Enc t) (b : Bool) (k : Nat) : (preF t b k).length ≤ 160000 := by
  unfold preF
  have h1 := preE_le he b
  have h2 := flat_take_le witB 400 t.ins k fun x hx => witB_le (he.ids x hx).2
  have := he.ins
  rw [List.length_append]
  omega
theorem preB_step (t : PTx) (b : Bool) {k : Nat} {x : PIn} (h : t.ins[k]? = some x) : preB t b k ++ x.id.data.toList ++ leB x.idx 4 ++ vintL 0 ++ leB x.seq 4 = preB t b (k + 1) := by
  unfold preB
  rw [flat_take inB h]
  simp [inB, List.append_assoc]
theorem preB_zero (t : PTx) (b : Bool) : preB t b 0 = preA t b := by simp [preB]
theorem preB_full (t : PTx) (b : Bool) : preB t b t.ins.length ++ vintL t.outs.length = preC t b := by simp [preB, preC]
theorem preD_step (t : PTx) (b : Bool) {k : Nat} {x : POut} (h : t.outs[k]? = some x) : preD t b k ++ leB x.val.toNat 8 ++ sizedL x.script = preD t b (k + 1) := by
  unfold preD
  rw [flat_take outB h]
  simp [outB, List.append_assoc]
theorem preD_zero (t : PTx) (b : Bool) : preD t b 0 = preC t b := by simp [preD]
theorem preD_full (t : PTx) (b : Bool) : preD t b t.outs.length = preE t b := by simp [preD, preE]
theorem preF_zero (t : PTx) (b : Bool) : preF t b 0 = preE t b := by simp [preF]
theorem preF_step (t : PTx) (b : Bool) {k : Nat} {x : PIn} (h : t.ins[k]? = some x) : preF t b k ++ vintL x.wit.length ++ x.wit.flatMap sizedL = preF t b (k + 1) := by
  unfold preF
  rw [flat_take witB h]
  simp [witB, List.append_assoc]
theorem preF_full (t : PTx) : preF t true t.ins.length ++ leB t.lock 4 = encL t true := by simp [preF, preE, preC, preA, encL, witsL, List.append_assoc]
theorem preE_full (t : PTx) : preE t false ++ leB t.lock 4 = encL t false := by simp [preE, preC, preA, encL, witsL, List.append_assoc]
theorem leB_01 : leB 0 1 ++ leB 1 1 = [0, 1] := by decide

set_option maxRecDepth 100000 in
set_option maxHeartbeats 2000000 in
theorem encode_any (v : Value) (t : PTx) (b : Bool) (w : World) (hv : TxAt w v t) (he : Enc t) : Calls Tryz.prog 108 #[v, .bool b] w (SIs (encL t b) w) := by
  obtain ⟨va, vo, rfl, hia, hob, hver, hlock⟩ := hv
  obtain ⟨a, c, rfl, -, hl2⟩ := hia.shape
  obtain ⟨a', c', rfl, -, hl2'⟩ := hob.shape
  rw [maxLen_eq] at hl2 hl2'
  obtain ⟨n, hn⟩ : ∃ n, n = t.ins.length := ⟨_, rfl⟩
  obtain ⟨m, hm⟩ : ∃ n, n = t.outs.length := ⟨_, rfl⟩
  have htb := TB.start (t := t) hia hob
  have htw : TB w (.slice a n c) (.slice a' m c') t ((w.alloc (.cells #[.int .u32 t.ver, .slice a n c, .slice a' m c', .int .u32 t.lock] 44)).alloc (.cells #[.pointer none, .slice none 0 0] 105)) := by
    rw [← hn, ← hm] at htb
    exact htb.next ((Below.refl _ _).alloc (Nat.le_refl _) _)
  have hib := isb_new 105 5 (w.alloc (.cells #[.int .u32 t.ver, .slice a n c, .slice a' m c', .int .u32 t.lock] 44))
  have hsz : (w.alloc (.cells #[.int .u32 t.ver, .slice a n c, .slice a' m c', .int .u32 t.lock] 44)).heap.size = w.heap.size + 1 := by simp
  rw [hsz] at hib
  have hew : EW w (.slice a n c) (.slice a' m c') t [] ((w.alloc (.cells #[.int .u32 t.ver, .slice a n c, .slice a' m c', .int .u32 t.lock] 44)).alloc (.cells #[.pointer none, .slice none 0 0] 105)) := ⟨htw, hib⟩
  rw [← hn, ← hm]
  have hn2 : n ≤ 256 := by rw [hn]; exact he.ins
  have hm2 : m ≤ 256 := by rw [hm]; exact he.outs
  have HN := Lib.hid (And.intro hn hm)
  have HE := Lib.hid he
  have HEW := Lib.hid hew
  have hverI : (t.ver : Int) < 4294967296 := by omega
  have hlockI : (t.lock : Int) < 4294967296 := by omega
  clear htb htw hib hsz hew hia hob hn hm he
  go_enter Tryz.func108, Tryz.ntmps108
  go_upto_region 3 with fail
  generalize (w.alloc (.cells #[.int .u32 t.ver, .slice a n c, .slice a' m c', .int .u32 t.lock] 44)).alloc (.cells #[.pointer none, .slice none 0 0] 105) = w0 at *
  have c0 : w0.cell? ⟨w.heap.size, 0, none⟩ = some (.int .u32 t.ver) := cell_at HEW.out.tb.box
  go_wp2_with fail
  refine (wput_any t.ver 4 HEW.out (by omega) (.inr (.inr (.inl rfl))) (by simp)).mono ?_
  rintro en w1 ⟨⟨uv, rfl⟩, hew, -⟩
  have HEW := Lib.hid hew
  clear hew c0
  go_upto_if 21 with fail
  go_cut [21] (fun _ wx => EW w (.slice a n c) (.slice a' m c') t (leB t.ver 4 ++ markL b) wx)
  case first =>
    cases b
    · go_wp2_with fail
      go_meet
      simpa [markL] using HEW.out
    · go_wp2_with fail
      refine (wput_any 0 1 HEW.out (by omega) (.inl rfl) (by simp [leB_length])).mono ?_
      rintro en w2 ⟨⟨uv2, rfl⟩, hew, -⟩
      have HEW := Lib.hid hew
      clear hew
      go_wp2_with fail
      refine (wput_any 1 1 HEW.out (by omega) (.inl rfl) (by simp [leB_length])).mono ?_
      rintro en w3 ⟨⟨uv3, rfl⟩, hew, -⟩
      have HEW := Lib.hid hew
      clear hew
      go_wp2_with fail
      go_meet
      have h := HEW.out
      rw [List.append_assoc, leB_01] at h
      simpa [markL] using h
  case rest =>
    rename World => wx
    have HEW := Lib.hid hcut
    clear hcut
    have c1 : wx.cell? ⟨w.heap.size, 1, none⟩ = some (.slice a n c) := cell_at HEW.out.tb.box
    go_wp2_with fail
    refine (counted_any n (by omega) wx).mono ?_
    rintro en w2 ⟨rfl, hb⟩
    have HEW := Lib.hid (HEW.out.next hb)
    clear hb c1
    go_wp2_with fail
    refine (wlst_any (vintL n) HEW.out (by have h1 := preA_le t b; rw [HN.out.1]; unfold preA at h1; rw [List.length_append] at h1; omega)).mono ?_
    rintro en w3 ⟨⟨uv4, rfl⟩, hew, -⟩
    have HEW := Lib.hid (show EW w (.slice a n c) (.slice a' m c') t (preB t b 0) w3 by rw [preB_zero]; unfold preA; rw [← HN.out.1]; exact hew)
    clear hew
    have c1 : w3.cell? ⟨w.heap.size, 1, none⟩ = some (.slice a n c) := cell_at HEW.out.tb.box
    go_wp2_with fail
    go_loopg [34] n (fun g i wr => ∃ (k : Nat), g = n - k ∧ k ≤ n ∧ i = .int .i64 k ∧ EW w (.slice a n c) (.slice a' m c') t (preB t b k) wr)
    case atStart => exact ⟨0, rfl, by omega, rfl, HEW.out⟩
    case round =>
      clear HEW c1
      rename World => wq
      obtain ⟨k, hgk, hk, rfl, hew⟩ := hrel
      have HGK := Lib.hid hgk
      have HEW := Lib.hid hew
      clear hgk hew
      by_cases hlt : k < n
      · obtain ⟨bb, o, x, wv, rfl, hx, hseq, hidx, hid, hwv, d0, d1, d2, d3⟩ := (HEW.out.tb.ins).inp hlt
        obtain ⟨xa, xc, rfl, -, -⟩ := hwv.shape
        obtain ⟨xl, hxl⟩ : ∃ n, n = x.wit.length := ⟨_, rfl⟩
        rw [← hxl] at d3
        have hin : x ∈ t.ins := List.mem_of_getElem? hx
        have HX := Lib.hid (And.intro hx (HE.out.ids x hin))
        clear hx hin hwv hxl
        have hlo : (0 : Int) ≤ (k : Int) := by omega
        have hidxI : (x.idx : Int) < 4294967296 := by omega
        have hseqI : (x.seq : Int) < 4294967296 := by omega
        go_upto_region 11 with fail
        have hz := heap_alloc_new wq (.cells #[.string x.id, .int .u32 x.idx, .int .u32 x.seq, .slice xa xl xc] 76)
        have hal : Below wq.heap.size wq (wq.alloc (.cells #[.string x.id, .int .u32 x.idx, .int .u32 x.seq, .slice xa xl xc] 76)) := (Below.refl _ _).alloc (Nat.le_refl _) _
        obtain ⟨X, hX⟩ : ∃ q, q = wq.heap.size := ⟨_, rfl⟩
        rw [← hX] at hz ⊢
        generalize wq.alloc (.cells #[.string x.id, .int .u32 x.idx, .int .u32 x.seq, .slice xa xl xc] 76) = w4 at *
        have HXB := Lib.hid (show XB (w.heap.size + 1) X #[.string x.id, .int .u32 x.idx, .int .u32 x.seq, .slice xa xl xc] 76 w4 from ⟨hz, by have := HEW.out.lt; omega, rowNot_new' HEW.out.bld hal (by omega) HEW.out.lt⟩)
        have HEW := Lib.hid (HEW.out.next hal)
        clear hz hal hX d0 d1 d2 d3
        have p0 : w4.cell? ⟨X, 0, none⟩ = some (.string x.id) := cell_at HXB.out.box
        go_wp2_with fail
        refine (wstr_any x.id HEW.out (by have h1 := preB_le HE.out b k; have := HX.out.2.1; omega)).mono ?_
        rintro en w5 ⟨⟨uu5, rfl⟩, hew, hk⟩
        have HEW := Lib.hid hew
        have HXB := Lib.hid (HXB.out.keep hk)
        clear hew hk p0
        have p1 : w5.cell? ⟨X, 1, none⟩ = some (.int .u32 x.idx) := cell_at HXB.out.box
        have hlen : (preB t b k ++ x.id.data.toList).length ≤ 30000 := by have h1 := preB_le HE.out b k; have := HX.out.2.1; rw [List.length_append, data_len]; omega
        have HLEN := Lib.hid hlen
        clear hlen
        go_wp2_with fail
        refine (wput_any x.idx 4 HEW.out (by omega) (.inr (.inr (.inl rfl))) (by have := HLEN.out; omega)).mono ?_
        rintro en w6 ⟨⟨uuw6, rfl⟩, hew, hk⟩
        have HEW := Lib.hid hew
        have HXB := Lib.hid (HXB.out.keep hk)
        clear hew hk
        clear p1
        go_wp2_with fail
        refine (counted_any 0 (by omega) w6).mono ?_
        rintro en w7 ⟨rfl, hb⟩
        have HXB := Lib.hid (HXB.out.next hb HEW.out.lt)
        have HEW := Lib.hid (HEW.out.next hb)
        clear hb
        go_wp2_with fail
        refine (wlst_any (vintL 0) HEW.out (by have := HLEN.out; have := vintL_le 0; rw [List.length_append, leB_length]; omega)).mono ?_
        rintro en w8 ⟨⟨uuw8, rfl⟩, hew, hk⟩
        have HEW := Lib.hid hew
        have HXB := Lib.hid (HXB.out.keep hk)
        clear hew hk
        have p2 : w8.cell? ⟨X, 2, none⟩ = some (.int .u32 x.seq) := cell_at HXB.out.box
        go_wp2_with fail
        refine (wput_any x.seq 4 HEW.out (by omega) (.inr (.inr (.inl rfl))) (by have := HLEN.out; have := vintL_le 0; simp only [List.length_append, leB_length] at *; omega)).mono ?_
        rintro en w9 ⟨⟨uuw9, rfl⟩, hew, hk⟩
        have HEW := Lib.hid hew
        clear hew hk
        have HEW := Lib.hid (show EW w (.slice (some ⟨bb, o, none⟩) n c) (.slice a' m c') t (preB t b (k + 1)) w9 by rw [← preB_step t b HX.out.1]; exact HEW.out)
        clear p2
        go_wp2_with fail
        go_roundg (n - (k + 1))
        case measure => have := HGK.out; omega
        case rel => exact ⟨k + 1, rfl, by omega, by go_num, HEW.out⟩
      · obtain rfl : k = n := by omega
        have c2 : wq.cell? ⟨w.heap.size, 2, none⟩ = some (.slice a' m c') := cell_at HEW.out.tb.box
        go_wp2_with fail
        refine (counted_any m (by omega) wq).mono ?_
        rintro en w5 ⟨rfl, hb⟩
        have HEW := Lib.hid (HEW.out.next hb)
        clear hb c2
        go_wp2_with fail
        refine (wlst_any (vintL m) HEW.out (by have h1 := preB_le HE.out b k; have := vintL_le m; omega)).mono ?_
        rintro en w6 ⟨⟨uuw6, rfl⟩, hew, hk⟩
        have HEW := Lib.hid hew
        clear hew hk
        have HEW := Lib.hid (show EW w (.slice a k c) (.slice a' m c') t (preD t b 0) w6 by rw [preD_zero, ← preB_full, ← HN.out.1, ← HN.out.2]; exact HEW.out)
        have c2 : w6.cell? ⟨w.heap.size, 2, none⟩ = some (.slice a' m c') := cell_at HEW.out.tb.box
        go_wp2_with fail
        go_loopg [64] m (fun g i wr => ∃ (q : Nat), g = m - q ∧ q ≤ m ∧ i = .int .i64 q ∧ EW w (.slice a k c) (.slice a' m c') t (preD t b q) wr)
        case atStart => exact ⟨0, rfl, by omega, rfl, HEW.out⟩
        case round =>
          clear HEW c2 HGK
          rename World => wi
          obtain ⟨q, hgk, hq, rfl, hew⟩ := hrel
          have HGK := Lib.hid hgk
          have HEW := Lib.hid hew
          clear hgk hew
          by_cases hql : q < m
          · obtain ⟨bo, oo, x, rfl, hx, hok, d0, d1⟩ := (HEW.out.tb.outs).outp hql
            have hv := HE.out.vals x (List.mem_of_getElem? hx)
            obtain ⟨vn, hvn⟩ : ∃ n : Nat, x.val = (n : Int) := ⟨x.val.toNat, by omega⟩
            rw [hvn] at d0
            have hvn2 : x.val.toNat = vn := by omega
            have hvb : vn ≤ 2100000000000000 := by omega
            have HX := Lib.hid (And.intro hx (And.intro hv.2 hvn2))
            clear hx hok hv hvn hvn2
            have hlo : (0 : Int) ≤ (q : Int) := by omega
            have hv1 : (0 : Int) ≤ (vn : Int) := by omega
            have hv2 : (vn : Int) ≤ 2100000000000000 := by omega
            go_upto_region 20 with fail
            have hz := heap_alloc_new wi (.cells #[.int .i64 vn, .string x.script] 38)
            have hal : Below wi.heap.size wi (wi.alloc (.cells #[.int .i64 vn, .string x.script] 38)) := (Below.refl _ _).alloc (Nat.le_refl _) _
            obtain ⟨X, hX⟩ : ∃ q, q = wi.heap.size := ⟨_, rfl⟩
            rw [← hX] at hz ⊢
            generalize wi.alloc (.cells #[.int .i64 vn, .string x.script] 38) = w7 at *
            have HXB := Lib.hid (show XB (w.heap.size + 1) X #[.int .i64 vn, .string x.script] 38 w7 from ⟨hz, by have := HEW.out.lt; omega, rowNot_new' HEW.out.bld hal (by omega) HEW.out.lt⟩)
            have HEW := Lib.hid (HEW.out.next hal)
            clear hz hal hX d0 d1
            have p0 : w7.cell? ⟨X, 0, none⟩ = some (.int .i64 vn) := cell_at HXB.out.box
            go_wp2_with fail
            refine (wput_any vn 8 HEW.out (by omega) (.inr (.inr (.inr rfl))) (by have h1 := preD_le HE.out b q; omega)).mono ?_
            rintro en w8 ⟨⟨uuw8, rfl⟩, hew, hk⟩
            have HEW := Lib.hid hew
            have HXB := Lib.hid (HXB.out.keep hk)
            clear hew hk
            clear p0
            have p1 : w8.cell? ⟨X, 1, none⟩ = some (.string x.script) := cell_at HXB.out.box
            go_wp2_with fail
            refine (sized_any x.script (by have := HX.out.2.1; omega) w8).mono ?_
            rintro en w9 ⟨rfl, hb⟩
            have HEW := Lib.hid (HEW.out.next hb)
            clear hb p1
            go_wp2_with fail
            refine (wlst_any (sizedL x.script) HEW.out (by have h1 := preD_le HE.out b q; have h2 := sizedL_le x.script; have := HX.out.2.1; rw [List.length_append, leB_length]; omega)).mono ?_
            rintro en w10 ⟨⟨uuw10, rfl⟩, hew, hk⟩
            have HEW := Lib.hid hew
            clear hew hk
            have HEW := Lib.hid (show EW w (.slice a k c) (.slice (some ⟨bo, oo, none⟩) m c') t (preD t b (q + 1)) w10 by rw [← preD_step t b HX.out.1, HX.out.2.2]; exact HEW.out)
            go_wp2_with fail
            go_roundg (m - (q + 1))
            case measure => have := HGK.out; omega
            case rel => exact ⟨q + 1, rfl, by omega, by go_num, HEW.out⟩
          · obtain rfl : q = m := by omega
            have HEW := Lib.hid (show EW w (.slice a k c) (.slice a' q c') t (preE t b) wi by rw [← preD_full, ← HN.out.2]; exact HEW.out)
            go_upto_if 78 with fail
            go_cut [78] (fun _ wx => EW w (.slice a k c) (.slice a' q c') t (preE t b ++ witsL b t.ins) wx)
            case first =>
              cases b
              · go_wp2_with fail
                go_meet
                simpa [witsL] using HEW.out
              · have c1 : wi.cell? ⟨w.heap.size, 1, none⟩ = some (.slice a k c) := cell_at HEW.out.tb.box
                go_wp2_with fail
                go_loopg [82] k (fun g i wr => ∃ (z : Nat), g = k - z ∧ z ≤ k ∧ i = .int .i64 z ∧ EW w (.slice a k c) (.slice a' q c') t (preF t true z) wr)
                case atStart => exact ⟨0, rfl, by omega, rfl, by rw [preF_zero]; exact HEW.out⟩
                case round =>
                  clear HEW c1 HGK
                  rename World => wl
                  obtain ⟨z, hgk, hz1, rfl, hew⟩ := hrel
                  have HGK := Lib.hid hgk
                  have HEW := Lib.hid hew
                  clear hgk hew
                  by_cases hzl : z < k
                  · obtain ⟨bb, o, x, wv, rfl, hx, hseq, hidx, hid, hwv, d0, d1, d2, d3⟩ := (HEW.out.tb.ins0).inp hzl
                    have HWV := Lib.hid hwv
                    obtain ⟨xa, xc, rfl, -, hxm⟩ := hwv.shape
                    rw [maxLen_eq] at hxm
                    obtain ⟨xl, hxl⟩ : ∃ n, n = x.wit.length := ⟨_, rfl⟩
                    rw [← hxl] at d3 HWV
                    have hb := HEW.out.tb.bel
                    replace d0 := below_cells hb _ _ d0
                    replace d1 := below_cells hb _ _ d1
                    replace d2 := below_cells hb _ _ d2
                    replace d3 := below_cells hb _ _ d3
                    have hin : x ∈ t.ins := List.mem_of_getElem? hx
                    have h4 : xl ≤ 4 := by rw [hxl]; exact (HE.out.ids x hin).2.1
                    have HX := Lib.hid (And.intro hx (And.intro hxl (HE.out.ids x hin).2))
                    clear hx hin hwv hxl hb
                    have hlo : (0 : Int) ≤ (z : Int) := by omega
                    go_upto_region 27 with fail
                    have hz := heap_alloc_new wl (.cells #[.string x.id, .int .u32 x.idx, .int .u32 x.seq, .slice xa xl xc] 76)
                    have hal : Below wl.heap.size wl (wl.alloc (.cells #[.string x.id, .int .u32 x.idx, .int .u32 x.seq, .slice xa xl xc] 76)) := (Below.refl _ _).alloc (Nat.le_refl _) _
                    obtain ⟨X, hX⟩ : ∃ q, q = wl.heap.size := ⟨_, rfl⟩
                    rw [← hX] at hz ⊢
                    generalize wl.alloc (.cells #[.string x.id, .int .u32 x.idx, .int .u32 x.seq, .slice xa xl xc] 76) = w7 at *
                    have HXB := Lib.hid (show XB (w.heap.size + 1) X #[.string x.id, .int .u32 x.idx, .int .u32 x.seq, .slice xa xl xc] 76 w7 from ⟨hz, by have := HEW.out.lt; omega, rowNot_new' HEW.out.bld hal (by omega) HEW.out.lt⟩)
                    have HEW := Lib.hid (HEW.out.next hal)
                    clear hz hal hX d0 d1 d2 d3
                    have p3 : w7.cell? ⟨X, 3, none⟩ = some (.slice xa xl xc) := cell_at HXB.out.box
                    go_wp2_with fail
                    refine (counted_any xl (by omega) w7).mono ?_
                    rintro en w8 ⟨rfl, hb⟩
                    have HXB := Lib.hid (HXB.out.next hb HEW.out.lt)
                    have HEW := Lib.hid (HEW.out.next hb)
                    clear hb p3
                    go_wp2_with fail
                    refine (wlst_any (vintL xl) HEW.out (by have h1 := preF_le HE.out true z; have h2 := vintL_le xl; omega)).mono ?_
                    rintro en w9 ⟨⟨uuw9, rfl⟩, hew, hk⟩
                    have HEW := Lib.hid hew
                    have HXB := Lib.hid (HXB.out.keep hk)
                    clear hew hk
                    have p3 : w9.cell? ⟨X, 3, none⟩ = some (.slice xa xl xc) := cell_at HXB.out.box
                    have HEW := Lib.hid (show EW w (.slice (some ⟨bb, o, none⟩) k c) (.slice a' q c') t (preF t true z ++ vintL xl ++ (x.wit.take 0).flatMap sizedL) w9 by rw [List.take_zero, List.flatMap_nil, List.append_nil]; exact HEW.out)
                    go_wp2_with fail
                    go_loopg [94] xl (fun g i wr => ∃ (y : Nat), g = xl - y ∧ y ≤ xl ∧ i = .int .i64 y ∧ EW w (.slice (some ⟨bb, o, none⟩) k c) (.slice a' q c') t (preF t true z ++ vintL xl ++ (x.wit.take y).flatMap sizedL) wr)
                    case atStart => exact ⟨0, rfl, by omega, rfl, HEW.out⟩
                    case round =>
                      clear HEW p3 HXB
                      rename World => wy
                      obtain ⟨y, hgk2, hy, rfl, hew⟩ := hrel
                      have HGK2 := Lib.hid hgk2
                      have HEW := Lib.hid hew
                      clear hgk2 hew
                      by_cases hyl : y < xl
                      · obtain ⟨bs, os, s, rfl, hs, -, ds⟩ := (HWV.out.below HEW.out.tb.bel).str hyl
                        have hs80 : s.size ≤ 80 := HX.out.2.2.2 s (List.mem_of_getElem? hs)
                        have HS := Lib.hid hs
                        clear hs
                        have hlo2 : (0 : Int) ≤ (y : Int) := by omega
                        go_wp2_with fail
                        refine (sized_any s (by omega) wy).mono ?_
                        rintro en wz ⟨rfl, hb⟩
                        have HEW := Lib.hid (HEW.out.next hb)
                        clear hb ds
                        have hlen : (preF t true z ++ vintL xl ++ (x.wit.take y).flatMap sizedL).length ≤ 170000 := by
                          have h1 := preF_le HE.out true z
                          have h2 := vintL_le xl
                          have h3 := flat_take_le sizedL 89 x.wit y fun s hs => by have h5 := sizedL_le s; have h6 := HX.out.2.2.2 s hs; omega
                          have h4 := HX.out.2.2.1
                          simp only [List.length_append]
                          omega
                        have HLEN := Lib.hid hlen
                        clear hlen
                        go_wp2_with fail
                        refine (wlst_any (sizedL s) HEW.out (by have h1 := HLEN.out; have h2 := sizedL_le s; omega)).mono ?_
                        rintro en wz2 ⟨⟨uuwz2, rfl⟩, hew, hk⟩
                        have HEW := Lib.hid hew
                        clear hew hk
                        have HEW := Lib.hid (show EW w (.slice (some ⟨bb, o, none⟩) k c) (.slice a' q c') t (preF t true z ++ vintL xl ++ (x.wit.take (y + 1)).flatMap sizedL) wz2 by rw [flat_take sizedL HS.out, ← List.append_assoc]; exact HEW.out)
                        go_wp2_with fail
                        go_roundg (xl - (y + 1))
                        case measure => have := HGK2.out; omega
                        case rel => exact ⟨y + 1, rfl, by omega, by go_num, HEW.out⟩
                      · obtain rfl : y = xl := by omega
                        have HEW := Lib.hid (show EW w (.slice (some ⟨bb, o, none⟩) k c) (.slice a' q c') t (preF t true (z + 1)) wy by rw [← preF_step t true HX.out.1, ← HX.out.2.1]; have h := HEW.out; rw [HX.out.2.1, List.take_length, ← HX.out.2.1] at h; exact h)
                        go_wp2_with fail
                        go_roundg (k - (z + 1))
                        case measure => have := HGK.out; omega
                        case rel => exact ⟨z + 1, rfl, by omega, by go_num, HEW.out⟩
                  · obtain rfl : z = k := by omega
                    have HEW := Lib.hid (show EW w (.slice a z c) (.slice a' q c') t (preE t true ++ witsL true t.ins) wl by have h := HEW.out; rw [HN.out.1] at h; unfold preF at h; rw [List.take_length, ← HN.out.1] at h; exact h)
                    go_wp2_with fail
                    go_meet
                    exact HEW.out
            case rest =>
              clear HEW
              rename World => wr
              have HEW := Lib.hid hcut
              clear hcut
              have c3 : wr.cell? ⟨w.heap.size, 3, none⟩ = some (.int .u32 t.lock) := cell_at HEW.out.tb.box
              have hlen : (preE t b ++ witsL b t.ins).length ≤ 170000 := by
                have h1 := preE_le HE.out b
                have h2 := flat_le witB 400 t.ins fun x hx => witB_le (HE.out.ids x hx).2
                have h3 := HE.out.ins
                unfold witsL
                rw [List.length_append]
                split
                · omega
                · simp; omega
              have HLEN := Lib.hid hlen
              clear hlen
              go_wp2_with fail
              refine (wput_any t.lock 4 HEW.out (by omega) (.inr (.inr (.inl rfl))) (by have := HLEN.out; omega)).mono ?_
              rintro en wf ⟨⟨uuwf, rfl⟩, hew, hk⟩
              have HEW := Lib.hid hew
              clear hew hk
              go_wp2_with fail
              refine (bstring_any _ _ _ wf HEW.out.bld HEW.out.hB).mono ?_
              rintro en wg ⟨rfl, hb⟩
              have HF := Lib.hid (HEW.out.tb.bel.trans (hb.mono (Nat.le_succ _)))
              clear hb
              go_wp2_with fail
              go_ret
              refine ⟨?_, HF.out⟩
              have e : preE t b ++ (witsL b t.ins ++ leB t.lock 4) = encL t b := by simp [preE, preC, preA, encL, List.append_assoc]
              exact congrArg (fun l => Ending.returned (Value.string (bL l))) e
end Go.Proofs.YtmakghcoehkphaaGreat
