/-
  SHA-256: the document's block. Conditions: the slice has 64 bytes, which the list tells.
-/
import Derived.Test.YtfkcldaogfengaaSha8
namespace Go.Proofs.Ytfkcldaogfengaa
open Go.RowKit Go.BigFrame
set_option linter.unusedVariables false
set_option linter.unusedSimpArgs false

/-- The eight words as a function. -/
def St.fn (s : St) : Nat → W32
  | 0 => s.a
  | 1 => s.b
  | 2 => s.c
  | 3 => s.d
  | 4 => s.e
  | 5 => s.f
  | 6 => s.g
  | _ => s.h
theorem St.val_arr (s : St) : s.val = .agg (arrV 8 s.fn) := rfl

theorem ArrAt.other {w : World} {b n : Nat} {f : Nat → W32} (h : ArrAt w b n f) (p : Addr) (v : Value) (hp : p.block ≠ b) : ArrAt (w.setCell p v) b n f := by
  obtain ⟨cs, e, h1, h2, h3⟩ := h
  exact ⟨cs, e, (Below.heap_setCell _ _ _ _ (Ne.symm hp)).trans h1, h2, h3⟩
theorem ArrAt.rowOther {w : World} {b c n : Nat} {f : Nat → W32} (h : ArrAt w b n f) (x : Array Value) (hp : c ≠ b) : ArrAt (w.setRow c x) b n f := by
  obtain ⟨cs, e, h1, h2, h3⟩ := h
  exact ⟨cs, e, (setRow_other w c b _ (Ne.symm hp)).trans h1, h2, h3⟩
theorem below_row {B : Nat} {w wr : World} (h : Below B w wr) {c : Nat} (hc : B ≤ c) (x : Array Value) : Below B w (wr.setRow c x) :=
  ⟨h.os, h.tape, h.output, by have := h.size; simpa [World.setRow] using this, fun k hk => (setRow_other wr c k _ (by omega)).trans (h.block k hk)⟩

structure BW (w : World) (hs : Nat → W32) (K : Nat) (f : Nat → W32) (wr : World) : Prop where
  bel : Below w.heap.size w wr
  hh : ArrAt wr w.heap.size 8 hs
  res : ArrAt wr (w.heap.size + 1) 8 (fun _ => 0)
  ws : ArrAt wr (w.heap.size + 2) 64 f
  ks : ArrAt wr K 64 kF
  far : w.heap.size + 2 < K
theorem BW.next {w wr w' : World} {hs f : Nat → W32} {K : Nat} (h : BW w hs K f wr) (hb : Below wr.heap.size wr w') : BW w hs K f w' :=
  ⟨h.bel.trans (hb.mono h.bel.size), h.hh.next hb h.hh.lt, h.res.next hb h.res.lt, h.ws.next hb h.ws.lt, h.ks.next hb h.ks.lt, h.far⟩
theorem BW.put {w wr : World} {hs f : Nat → W32} {K : Nat} (h : BW w hs K f wr) (i : Nat) (x : W32) : BW w hs K (upd f i x) (wr.setCell ⟨w.heap.size + 2, i, none⟩ (.int .u32 (nv x))) :=
  ⟨h.bel.setCell (by simp) _, h.hh.other _ _ (by simp), h.res.other _ _ (by simp), h.ws.set x, h.ks.other _ _ (by have := h.far; simp; omega), h.far⟩
structure BX (w : World) (hs : Nat → W32) (K : Nat) (f : Nat → W32) (X : Nat) (g : Nat → W32) (wr : World) : Prop where
  b : BW w hs K f wr
  x : ArrAt wr X 8 g
  far : K < X
theorem BX.next {w wr w' : World} {hs f g : Nat → W32} {K X : Nat} (h : BX w hs K f X g wr) (hb : Below wr.heap.size wr w') : BX w hs K f X g w' :=
  ⟨h.b.next hb, h.x.next hb h.x.lt, h.far⟩
theorem BX.put {w wr : World} {hs f g : Nat → W32} {K X : Nat} (h : BX w hs K f X g wr) (i : Nat) (x : W32) : BX w hs K f X (upd g i x) (wr.setCell ⟨X, i, none⟩ (.int .u32 (nv x))) := by
  have f1 := h.far
  have f2 := h.b.far
  exact ⟨⟨h.b.bel.setCell (by simp; omega) _, h.b.hh.other _ _ (by simp; omega), h.b.res.other _ _ (by simp; omega), h.b.ws.other _ _ (by simp; omega), h.b.ks.other _ _ (by simp; omega), f2⟩, h.x.set x, h.far⟩

/-- The call's first three rows. -/
structure B0 (w : World) (hs : Nat → W32) (wr : World) : Prop where
  bel : Below w.heap.size w wr
  hh : ArrAt wr w.heap.size 8 hs
  res : ArrAt wr (w.heap.size + 1) 8 (fun _ => 0)
  ws : ArrAt wr (w.heap.size + 2) 64 (fun _ => 0)
  sz : w.heap.size + 2 < wr.heap.size
theorem arrAt_new (w : World) (n : Nat) (f : Nat → W32) (e : TypeId) : ArrAt (w.alloc (.cells (arrV n f) e)) w.heap.size n f :=
  ⟨_, e, heap_alloc_new w _, arrV_size n f, fun i hi => by simp [arrV, hi]⟩
theorem ArrAt.alloc {w : World} {b n : Nat} {f : Nat → W32} (h : ArrAt w b n f) (o : Obj) : ArrAt (w.alloc o) b n f :=
  h.next ((Below.refl _ _).alloc (Nat.le_refl _) o) h.lt
theorem rep_arr (n : Nat) : arrV n (fun _ => 0) = Array.replicate n (.int .u32 0) := by
  apply Array.ext
  · simp [arrV_size]
  · intro i h1 h2; simp [arrV]; exact nv_zero
theorem B0.start (w : World) (hs : Nat → W32) (e1 e2 e3 : TypeId) : B0 w hs (((w.alloc (.cells (arrV 8 hs) e1)).alloc (.cells (Array.replicate 8 (.int .u32 0)) e2)).alloc (.cells (Array.replicate 64 (.int .u32 0)) e3)) := by
  have s1 : (w.alloc (.cells (arrV 8 hs) e1)).heap.size = w.heap.size + 1 := by simp
  have s2 : ((w.alloc (.cells (arrV 8 hs) e1)).alloc (.cells (arrV 8 (fun _ => 0)) e2)).heap.size = w.heap.size + 2 := by simp
  rw [← rep_arr, ← rep_arr]
  refine ⟨(((Below.refl _ _).alloc (Nat.le_refl _) _).alloc (by simp) _).alloc (by simp; omega) _, ((arrAt_new w 8 hs e1).alloc _).alloc _, ?_, ?_, by simp⟩
  · have := arrAt_new (w.alloc (.cells (arrV 8 hs) e1)) 8 (fun _ => 0) e2
    rw [s1] at this
    exact this.alloc _
  · have := arrAt_new ((w.alloc (.cells (arrV 8 hs) e1)).alloc (.cells (arrV 8 (fun _ => 0)) e2)) 64 (fun _ => 0) e3
    rw [s2] at this
    exact this
theorem B0.next {w wr w' : World} {hs : Nat → W32} (h : B0 w hs wr) (hb : Below wr.heap.size wr w') : B0 w hs w' :=
  ⟨h.bel.trans (hb.mono h.bel.size), h.hh.next hb h.hh.lt, h.res.next hb h.res.lt, h.ws.next hb h.ws.lt, Nat.lt_of_lt_of_le h.sz hb.size⟩
theorem B0.keys {w wr : World} {hs : Nat → W32} (h : B0 w hs wr) (e : TypeId) : BW w hs wr.heap.size (fun _ => 0) ((wr.alloc (.cells (arrV 64 (fun _ => 0)) e)).setRow wr.heap.size (arrV 64 kF)) := by
  have hlt := h.sz
  exact ⟨below_row (h.bel.alloc h.bel.size _) h.bel.size _, (h.hh.alloc _).rowOther _ (by omega), (h.res.alloc _).rowOther _ (by omega), (h.ws.alloc _).rowOther _ (by omega), (arrAt_new wr 64 _ e).row, hlt⟩

theorem byL_range (l : List UInt8) (i : Nat) : 0 ≤ nv (byL l i) ∧ nv (byL l i) ≤ 255 := by
  unfold nv byL
  rw [BitVec.toNat_ofNat]
  have := (l.getD i 0).toNat_lt
  have : (l.getD i 0).toNat % 2 ^ 32 = (l.getD i 0).toNat := Nat.mod_eq_of_lt (by omega)
  omega

theorem nv_step (x y : W32) (hx : nv x < 16777216) (hy : nv y < 256) : nv (x <<< (8 : Nat) ||| y) = nv x * 256 + nv y := by
  unfold nv at *
  rw [shl_or x y (by omega) (by omega), toNat_step x y (by omega) (by omega)]
  omega
theorem msgL_nv (l : List UInt8) (o k : Nat) : nv (byL l (o + 4 * k)) * 16777216 + nv (byL l (o + (4 * k + 1))) * 65536 + nv (byL l (o + (4 * k + 2))) * 256 + nv (byL l (o + (4 * k + 3))) = nv (msgL l o k) := by
  have r0 := byL_range l (o + 4 * k)
  have r1 := byL_range l (o + (4 * k + 1))
  have r2 := byL_range l (o + (4 * k + 2))
  have r3 := byL_range l (o + (4 * k + 3))
  unfold msgL
  have e1 := nv_step (byL l (o + 4 * k)) (byL l (o + (4 * k + 1))) (by omega) (by omega)
  have e2 := nv_step _ (byL l (o + (4 * k + 2))) (by rw [e1]; omega) (by omega)
  have e3 := nv_step _ (byL l (o + (4 * k + 3))) (by rw [e2, e1]; omega) (by omega)
  rw [e3, e2, e1]
  omega

theorem BX.start {w wr : World} {hs f : Nat → W32} {K : Nat} (h : BW w hs K f wr) (e : TypeId) : BX w hs K f wr.heap.size hs ((wr.alloc (.cells (arrV 8 (fun _ => 0)) e)).setRow wr.heap.size (arrV 8 hs)) := by
  have h1 := h.bel.size
  have h2 := h.ks.lt
  have h3 := h.far
  exact ⟨⟨below_row (h.bel.alloc h1 _) h1 _, (h.hh.alloc _).rowOther _ (by omega), (h.res.alloc _).rowOther _ (by omega), (h.ws.alloc _).rowOther _ (by omega), (h.ks.alloc _).rowOther _ (by omega), h3⟩, (arrAt_new wr 8 _ e).row, h2⟩

theorem BX.same {w wr : World} {hs f g g' : Nat → W32} {K X : Nat} (h : BX w hs K f X g wr) (he : ∀ i, i < 8 → g i = g' i) : BX w hs K f X g' wr := ⟨h.b, h.x.same he, h.far⟩
/-- The words behind the n-th moved by one. -/
def shf (g : Nat → W32) (n : Nat) : Nat → W32 := fun j => if n < j then g (j - 1) else g j
theorem shf_step (g : Nat → W32) (m : Nat) : upd (shf g (m + 1)) (m + 1) (shf g (m + 1) m) = shf g m := by
  funext j
  unfold upd shf
  by_cases h1 : j = m + 1
  · subst h1
    rw [if_pos rfl, if_neg (by omega), if_pos (by omega)]
    rfl
  · rw [if_neg h1]
    by_cases h2 : m < j
    · rw [if_pos (by omega), if_pos h2]
    · rw [if_neg (by omega), if_neg h2]
/-- The first n words with those of h added. -/
def plus (x h : Nat → W32) (n : Nat) : Nat → W32 := fun j => if j < n then x j + h j else x j
theorem plus_step (x h : Nat → W32) (n : Nat) : upd (plus x h n) n (plus x h n n + h n) = plus x h (n + 1) := by
  funext j
  unfold upd plus
  by_cases h1 : j = n
  · subst h1
    rw [if_pos rfl, if_neg (by omega), if_pos (by omega)]
  · rw [if_neg h1]
    by_cases h2 : j < n
    · rw [if_pos h2, if_pos (by omega)]
    · rw [if_neg h2, if_neg (by omega)]
theorem fn_rnd (s : St) (k x : W32) : ∀ i, i < 8 → upd (upd (shf s.fn 0) 4 (s.d + tOf s k x)) 0 (tOf s k x + uOf s) i = (rnd s k x).fn i := by
  intro i hi
  match i, hi with
  | 0, _ => rfl
  | 1, _ => rfl
  | 2, _ => rfl
  | 3, _ => rfl
  | 4, _ => rfl
  | 5, _ => rfl
  | 6, _ => rfl
  | 7, _ => rfl
theorem fn_add (x h : St) : arrV 8 (plus x.fn h.fn 8) = arrV 8 (addSt h x).fn := by
  have : ∀ i, i < 8 → plus x.fn h.fn 8 i = (addSt h x).fn i := by
    intro i hi
    unfold plus
    rw [if_pos hi, BitVec.add_comm]
    match i, hi with
    | 0, _ => rfl
    | 1, _ => rfl
    | 2, _ => rfl
    | 3, _ => rfl
    | 4, _ => rfl
    | 5, _ => rfl
    | 6, _ => rfl
    | 7, _ => rfl
  unfold arrV
  congr 1
  apply List.map_congr_left
  intro i hi
  rw [this i (by simpa using hi)]

/-- The bytes of a block, as they lie. -/
def BytesIn (w : World) (bb o : Nat) (l : List UInt8) (off : Nat) : Prop := ∀ i, i < 64 → w.cell? ⟨bb, o + i, none⟩ = some (.int .u8 (nv (byL l (off + i))))
def BlkIs (l : List UInt8) (off : Nat) (h : St) (w : World) (e : Ending) (w' : World) : Prop := e = .returned (blk (msgL l off) h).val ∧ Below w.heap.size w w'

attribute [-go_sem] loadCellsFrom
set_option maxRecDepth 100000 in
set_option maxHeartbeats 4000000 in
theorem block_any (l : List UInt8) (off : Nat) (h : St) (bb o c : Nat) (hoc : o ≤ 4611686018427387904) (w : World) (hb : BytesIn w bb o l off) : Calls Try.prog 81 #[h.val, .slice (some ⟨bb, o, none⟩) 64 c] w (BlkIs l off h w) := by
  have HBI := Lib.hid hb
  clear hb
  have hbl : bb < w.heap.size := by
    have h0 := HBI.out 0 (by omega)
    rcases Nat.lt_or_ge bb w.heap.size with h1 | h1
    · exact h1
    · exfalso
      simp [World.cell?, Array.getElem?_eq_none h1] at h0
  rw [St.val_arr]
  go_enter Try.func81, Try.ntmps81
  go_upto_region 2 with fail
  refine gen_world (B0 w h.fn) (B0.start w h.fn _ _ _) ?_
  intro w0 hb0
  have HB0 := Lib.hid hb0
  clear hb0
  refine wp_region_lit ?_
  refine wpList_plain rfl fun K hK => ?_
  go_wp2_with fail
  refine (rk_any _).mono ?_
  rintro e w1 ⟨rfl, hb1⟩
  have HB1 := Lib.hid (HB0.out.next hb1)
  clear hb1 HB0
  refine hK _ _ ?_
  refine wpList_run (w' := w1.alloc (.cells (arrV 64 (fun _ => 0)) 126)) (v := .pointer (some ⟨w1.heap.size, 0, none⟩)) rfl (by rw [rep_arr]; kernel_rfl) ?_
  refine wpList_store_arr (f := kF) (arrAt_new w1 64 _ 126) rfl 126 (.tmp 6) (.tmp 22) rfl rfl rfl (by kernel_rfl) ?_
  have hk := HB1.out.keys 126
  clear hK HB1
  obtain ⟨KB, hKB⟩ : ∃ KB, KB = w1.heap.size := ⟨_, rfl⟩
  rw [← hKB] at hk ⊢
  clear hKB
  generalize (w1.alloc (.cells (arrV 64 (fun _ => 0)) 126)).setRow KB (arrV 64 kF) = wz at *
  have HK := Lib.hid hk
  clear hk
  go_wp2_with fail
  go_loopg [7] 16 (fun g i wr => ∃ k : Nat, g = 16 - k ∧ k ≤ 16 ∧ i = .int .i64 k ∧ BW w h.fn KB (sch (msgL l off) k) wr)
  case atStart => exact ⟨0, rfl, by omega, rfl, HK.out⟩
  case round =>
    clear HK
    rename World => wa
    obtain ⟨k, hgk, hk, rfl, hsw⟩ := hrel
    have HGK := Lib.hid hgk
    have HSW := Lib.hid hsw
    clear hgk hsw
    by_cases hlt : k < 16
    · obtain ⟨C, hC⟩ : ∃ C : World → Prop, C = fun w' => Below wa.heap.size wa w' := ⟨_, rfl⟩
      have hby : ∀ (y : Kin C) (j : Nat), j < 64 → y.w.cell? ⟨bb, o + j, none⟩ = some (.int .u8 (nv (byL l (off + j)))) := by
        intro ⟨y, h⟩ j hj; subst hC; exact below_cells h _ _ (below_cells (HSW.out.bel) _ _ (HBI.out j hj))
      have hb0 : ∀ (y : Kin C), y.w.cell? ⟨bb, o + 4 * k, none⟩ = some (.int .u8 (nv (byL l (off + 4 * k)))) := fun y => hby y (4 * k) (by omega)
      have hb1 : ∀ (y : Kin C), y.w.cell? ⟨bb, o + (4 * k + 1), none⟩ = some (.int .u8 (nv (byL l (off + (4 * k + 1))))) := fun y => hby y (4 * k + 1) (by omega)
      have hb2 : ∀ (y : Kin C), y.w.cell? ⟨bb, o + (4 * k + 2), none⟩ = some (.int .u8 (nv (byL l (off + (4 * k + 2))))) := fun y => hby y (4 * k + 2) (by omega)
      have hb3 : ∀ (y : Kin C), y.w.cell? ⟨bb, o + (4 * k + 3), none⟩ = some (.int .u8 (nv (byL l (off + (4 * k + 3))))) := fun y => hby y (4 * k + 3) (by omega)
      have r0 := byL_range l (off + 4 * k)
      have r1 := byL_range l (off + (4 * k + 1))
      have r2 := byL_range l (off + (4 * k + 2))
      have r3 := byL_range l (off + (4 * k + 3))
      have HC := Lib.hid hC
      clear hC hby
      go_wp2_with fail
      refine wp_region_last_kin C 35 _ rfl rfl (by kernel_rfl) (by kernel_rfl) (by kernel_rfl) (by kernel_rfl) (by kernel_rfl) (by kernel_rfl) (by rw [HC.out]; exact ⟨rfl, rfl, rfl, Nat.le_refl _, fun _ _ => rfl⟩) ?_
      intro hne
      dsimp only [List.set, struck]
      repeat (first | (go_big_quiet_step (fail)) | (quiet_step (fail)))
      refine wpQuiet_nil ?_
      intro _ hw'
      obtain ⟨kx, hw''⟩ := hw'
      subst hw''
      obtain ⟨wx, hxc⟩ := kx
      rw [HC.out] at hxc
      have hsx := HSW.out.next hxc
      have d16 : wx.cell? ⟨w.heap.size + 1 + 1, k, none⟩ = _ := hsx.ws.cell (i := k) (by omega)
      have g16 : wx.frozen? ⟨w.heap.size + 1 + 1, k, none⟩ = false := hsx.ws.free
      have HSX := Lib.hid hsx
      clear hsx hxc hb0 hb1 hb2 hb3
      go_wp2_with fail
      go_roundg (16 - (k + 1))
      case measure => have := HGK.out; omega
      case rel =>
        have := HSX.out.put k (msgL l off k)
        refine ⟨k + 1, rfl, by omega, by go_num, ?_⟩
        rw [msgL_nv]
        have hnext : sch (msgL l off) (k + 1) = upd (sch (msgL l off) k) k (msgL l off k) := by
          show upd _ k _ = _
          rw [if_pos hlt]
        rw [hnext]
        exact this
    · obtain rfl : k = 16 := by omega
      clear hlt hk
      go_wp2_with fail
      go_loopg [8] 48 (fun g i wr => ∃ k : Nat, g = 48 - k ∧ k ≤ 48 ∧ i = .int .i64 ((k + 16 : Nat) : Int) ∧ BW w h.fn KB (sch (msgL l off) (k + 16)) wr)
      case atStart => exact ⟨0, rfl, by omega, rfl, HSW.out⟩
      case round =>
        clear HSW HGK
        rename World => wa
        obtain ⟨n, hgk, hk, rfl, hsw⟩ := hrel
        have HGK := Lib.hid hgk
        have HSW := Lib.hid hsw
        clear hgk hsw
        by_cases hlt : n < 48
        · have hnext : sch (msgL l off) (n + 16 + 1) = upd (sch (msgL l off) (n + 16)) (n + 16) (nextW (sch (msgL l off) (n + 16)) (n + 16)) := by
            show upd _ (n + 16) _ = _
            rw [if_neg (by omega)]
          have HNX := Lib.hid hnext
          clear hnext
          obtain ⟨f, hf⟩ : ∃ f, f = sch (msgL l off) (n + 16) := ⟨_, rfl⟩
          rw [← hf] at HNX HSW
          clear hf
          have c0 : wa.cell? ⟨w.heap.size + 1 + 1, n, none⟩ = _ := HSW.out.ws.cell (i := n) (by omega)
          have c1 : wa.cell? ⟨w.heap.size + 1 + 1, n + 1, none⟩ = _ := HSW.out.ws.cell (i := n + 1) (by omega)
          have c9 : wa.cell? ⟨w.heap.size + 1 + 1, n + 9, none⟩ = _ := HSW.out.ws.cell (i := n + 9) (by omega)
          have c14 : wa.cell? ⟨w.heap.size + 1 + 1, n + 14, none⟩ = _ := HSW.out.ws.cell (i := n + 14) (by omega)
          have hn1 : (((n + 16 : Nat) : Int)) - 15 = ((n + 1 : Nat) : Int) := by omega
          have Q7 := Lib.hid (fun w => rright_any (f (n + 1)) 7 (by decide) w)
          have Q18 := Lib.hid (fun w => rright_any (f (n + 1)) 18 (by decide) w)
          have Q17 := Lib.hid (fun w => rright_any (f (n + 14)) 17 (by decide) w)
          have Q19 := Lib.hid (fun w => rright_any (f (n + 14)) 19 (by decide) w)
          go_wp2_with (first
            | (go_at_call_of 89 (Value.int IntKind.u64 7); refine (Q7.out _).mono ?_; rintro e w' ⟨rfl, rfl⟩)
            | (go_at_call_of 89 (Value.int IntKind.u64 18); refine (Q18.out _).mono ?_; rintro e w' ⟨rfl, rfl⟩)
            | (go_at_call_of 89 (Value.int IntKind.u64 17); refine (Q17.out _).mono ?_; rintro e w' ⟨rfl, rfl⟩)
            | (go_at_call_of 89 (Value.int IntKind.u64 19); refine (Q19.out _).mono ?_; rintro e w' ⟨rfl, rfl⟩))
          obtain ⟨C, hC⟩ : ∃ C : World → Prop, C = fun w' => Below wa.heap.size wa w' := ⟨_, rfl⟩
          have hk0 : ∀ y : Kin C, y.w.cell? ⟨w.heap.size + 1 + 1, n, none⟩ = some (.int .u32 (nv (f n))) := by
            intro ⟨y, h⟩; subst hC; exact below_cells h _ _ c0
          have hk1 : ∀ y : Kin C, y.w.cell? ⟨w.heap.size + 1 + 1, n + 1, none⟩ = some (.int .u32 (nv (f (n + 1)))) := by
            intro ⟨y, h⟩; subst hC; exact below_cells h _ _ c1
          have hk9 : ∀ y : Kin C, y.w.cell? ⟨w.heap.size + 1 + 1, n + 9, none⟩ = some (.int .u32 (nv (f (n + 9)))) := by
            intro ⟨y, h⟩; subst hC; exact below_cells h _ _ c9
          have hk14 : ∀ y : Kin C, y.w.cell? ⟨w.heap.size + 1 + 1, n + 14, none⟩ = some (.int .u32 (nv (f (n + 14)))) := by
            intro ⟨y, h⟩; subst hC; exact below_cells h _ _ c14
          have HC := Lib.hid hC
          clear hC c0 c1 c9 c14 Q7 Q18 Q17 Q19
          go_wp2_with fail
          refine wp_region_last_kin C 31 _ rfl rfl (by kernel_rfl) (by kernel_rfl) (by kernel_rfl) (by kernel_rfl) (by kernel_rfl) (by kernel_rfl) (by rw [HC.out]; exact ⟨rfl, rfl, rfl, Nat.le_refl _, fun _ _ => rfl⟩) ?_
          intro hne
          dsimp only [List.set, struck]
          repeat (first | (go_big_quiet_step (fail)) | (quiet_step (fail)))
          refine wpQuiet_nil ?_
          intro _ hw'
          obtain ⟨kx, hw''⟩ := hw'
          subst hw''
          obtain ⟨wx, hxc⟩ := kx
          rw [HC.out] at hxc
          have hsx := HSW.out.next hxc
          have d16 : wx.cell? ⟨w.heap.size + 1 + 1, n + 16, none⟩ = _ := hsx.ws.cell (i := n + 16) (by omega)
          have g16 : wx.frozen? ⟨w.heap.size + 1 + 1, n + 16, none⟩ = false := hsx.ws.free
          have HSX := Lib.hid hsx
          clear hsx hxc hk0 hk1 hk9 hk14
          go_wp2_with fail
          simp only [nv_shr3, nv_shr10, nv_xor, nv_add4]
          go_roundg (48 - (n + 1))
          case measure => have := HGK.out; omega
          case rel =>
            have hnw : nextW f (n + 16) = f n + ((f (n + 1)).rotateRight 7 ^^^ (f (n + 1)).rotateRight 18 ^^^ f (n + 1) >>> 3) + f (n + 9) + ((f (n + 14)).rotateRight 17 ^^^ (f (n + 14)).rotateRight 19 ^^^ f (n + 14) >>> 10) := by
              unfold nextW
              rw [show n + 16 - 16 = n by omega, show n + 16 - 15 = n + 1 by omega, show n + 16 - 7 = n + 9 by omega, show n + 16 - 2 = n + 14 by omega]
            have := HSX.out.put (n + 16) (nextW f (n + 16))
            refine ⟨n + 1, rfl, by omega, by go_num, ?_⟩
            rw [show n + 1 + 16 = n + 16 + 1 by omega, HNX.out]
            rw [hnw] at this ⊢
            exact this
        · obtain rfl : n = 48 := by omega
          obtain ⟨f, hf⟩ : ∃ f, f = sch (msgL l off) 64 := ⟨_, rfl⟩
          rw [show 48 + 16 = 64 from rfl, ← hf] at HSW
          have HF := Lib.hid hf
          clear hf hlt hk
          go_upto_region 15 with fail
          refine wp_region_lit ?_
          refine wpList_load_arr HSW.out.hh rfl 117 (.tmp 2) rfl rfl Try.underlying117 rfl (by kernel_rfl) ?_
          refine wpList_run (w' := wa.alloc (.cells (arrV 8 (fun _ => 0)) 117)) (v := .pointer (some ⟨wa.heap.size, 0, none⟩)) rfl (by rw [rep_arr]; kernel_rfl) ?_
          refine wpList_store_arr (f := h.fn) (arrAt_new wa 8 _ 117) rfl 117 (.tmp 13) (.tmp 117) rfl rfl rfl (by kernel_rfl) ?_
          have hx := BX.start HSW.out 117
          clear HSW HGK
          obtain ⟨X, hX⟩ : ∃ X, X = wa.heap.size := ⟨_, rfl⟩
          rw [← hX] at hx ⊢
          clear hX
          generalize (wa.alloc (.cells (arrV 8 (fun _ => 0)) 117)).setRow X (arrV 8 h.fn) = wz at *
          have HX := Lib.hid hx
          clear hx
          go_wp2_with fail
          go_loopg [14] 64 (fun g i wr => ∃ k : Nat, g = 64 - k ∧ k ≤ 64 ∧ i = .int .i64 (k : Int) ∧ BX w h.fn KB f X (rounds f h k).fn wr)
          case atStart => exact ⟨0, rfl, by omega, rfl, HX.out⟩
          case round =>
            clear HX
            rename World => wb
            obtain ⟨k, hgk, hk, rfl, hsw⟩ := hrel
            have HGK := Lib.hid hgk
            have HSW := Lib.hid hsw
            clear hgk hsw
            by_cases hlt : k < 64
            · obtain ⟨s, hs⟩ : ∃ s, s = rounds f h k := ⟨_, rfl⟩
              rw [← hs] at HSW
              have hnext : rounds f h (k + 1) = rnd s (kF k) (f k) := by rw [hs]; rfl
              have HNX := Lib.hid hnext
              clear hnext hs
              obtain ⟨a0, b0, c0, d0, e0, f0, g0, h0⟩ := s
              have x0 : wb.cell? ⟨X, 0, none⟩ = some (.int .u32 (nv a0)) := HSW.out.x.cell (i := 0) (by omega)
              have x1 : wb.cell? ⟨X, 1, none⟩ = some (.int .u32 (nv b0)) := HSW.out.x.cell (i := 1) (by omega)
              have x2 : wb.cell? ⟨X, 2, none⟩ = some (.int .u32 (nv c0)) := HSW.out.x.cell (i := 2) (by omega)
              have x4 : wb.cell? ⟨X, 4, none⟩ = some (.int .u32 (nv e0)) := HSW.out.x.cell (i := 4) (by omega)
              have x5 : wb.cell? ⟨X, 5, none⟩ = some (.int .u32 (nv f0)) := HSW.out.x.cell (i := 5) (by omega)
              have x6 : wb.cell? ⟨X, 6, none⟩ = some (.int .u32 (nv g0)) := HSW.out.x.cell (i := 6) (by omega)
              have x7 : wb.cell? ⟨X, 7, none⟩ = some (.int .u32 (nv h0)) := HSW.out.x.cell (i := 7) (by omega)
              have ck : wb.cell? ⟨KB, k, none⟩ = _ := HSW.out.b.ks.cell (i := k) (by omega)
              have cw : wb.cell? ⟨w.heap.size + 1 + 1, k, none⟩ = _ := HSW.out.b.ws.cell (i := k) (by omega)
              have Q6 := Lib.hid (fun w => rright_any e0 6 (by decide) w)
              have Q11 := Lib.hid (fun w => rright_any e0 11 (by decide) w)
              have Q25 := Lib.hid (fun w => rright_any e0 25 (by decide) w)
              have Q2 := Lib.hid (fun w => rright_any a0 2 (by decide) w)
              have Q13 := Lib.hid (fun w => rright_any a0 13 (by decide) w)
              have Q22 := Lib.hid (fun w => rright_any a0 22 (by decide) w)
              have hmx : IntKind.u32.max = 4294967295 := by decide
              have hnot := bv_not e0
              have hsg : IntKind.u32.signed = false := rfl
              go_wp2_with (first
                | (go_at_call_of 89 (Value.int IntKind.u64 6); refine (Q6.out _).mono ?_; rintro e w' ⟨rfl, rfl⟩)
                | (go_at_call_of 89 (Value.int IntKind.u64 11); refine (Q11.out _).mono ?_; rintro e w' ⟨rfl, rfl⟩)
                | (go_at_call_of 89 (Value.int IntKind.u64 25); refine (Q25.out _).mono ?_; rintro e w' ⟨rfl, rfl⟩))
              go_quiet (fail)
              simp only [nv_add5, nv_addr, nv_add4, nv_add3, nv_add]
              obtain ⟨T, hT⟩ : ∃ T, T = tOf ⟨a0, b0, c0, d0, e0, f0, g0, h0⟩ (kF k) (f k) := ⟨_, rfl⟩
              unfold tOf at hT
              dsimp only at hT
              rw [← hT]
              have HT := Lib.hid hT
              clear hT
              have hb3 := HSW.out.next (w' := wb.drewN nq) ⟨rfl, rfl, rfl, Nat.le_refl _, fun _ _ => rfl⟩
              have HSW := Lib.hid hb3
              clear hb3 hnot hsg hmx Q6 Q11 Q25 ck cw x0 x1 x2 x4 x5 x6 x7
              generalize wb.drewN nq = wc at *
              have x0 : wc.cell? ⟨X, 0, none⟩ = some (.int .u32 (nv a0)) := HSW.out.x.cell (i := 0) (by omega)
              have x1 : wc.cell? ⟨X, 1, none⟩ = some (.int .u32 (nv b0)) := HSW.out.x.cell (i := 1) (by omega)
              have x2 : wc.cell? ⟨X, 2, none⟩ = some (.int .u32 (nv c0)) := HSW.out.x.cell (i := 2) (by omega)
              go_wp2_with (first
                | (go_at_call_of 89 (Value.int IntKind.u64 2); refine (Q2.out _).mono ?_; rintro e w' ⟨rfl, rfl⟩)
                | (go_at_call_of 89 (Value.int IntKind.u64 13); refine (Q13.out _).mono ?_; rintro e w' ⟨rfl, rfl⟩)
                | (go_at_call_of 89 (Value.int IntKind.u64 22); refine (Q22.out _).mono ?_; rintro e w' ⟨rfl, rfl⟩))
              simp only [nv_add5, nv_addr, nv_add4, nv_add3, nv_add]
              obtain ⟨U, hU⟩ : ∃ U, U = uOf ⟨a0, b0, c0, d0, e0, f0, g0, h0⟩ := ⟨_, rfl⟩
              unfold uOf at hU
              dsimp only at hU
              rw [← hU]
              have HU := Lib.hid hU
              clear hU x0 x1 x2 Q2 Q13 Q22
              go_loopg [20] 7 (fun g i wr => ∃ n : Nat, g = n ∧ n ≤ 7 ∧ i = .int .i64 (n : Int) ∧ BX w h.fn KB f X (shf (St.fn ⟨a0, b0, c0, d0, e0, f0, g0, h0⟩) n) wr)
              case atStart => exact ⟨7, rfl, by omega, rfl, HSW.out.same fun i hi => by unfold shf; rw [if_neg (by omega)]⟩
              case round =>
                clear HSW
                rename World => wd
                obtain ⟨n, hgn, hn, rfl, hsw⟩ := hrel
                have HGN := Lib.hid hgn
                have HSW := Lib.hid hsw
                clear hgn hsw
                rcases n with _ | m
                · have x4 : wd.cell? ⟨X, 4, none⟩ = some (.int .u32 (nv d0)) := HSW.out.x.cell (i := 4) (by omega)
                  have x0 : wd.cell? ⟨X, 0, none⟩ = some (.int .u32 (nv a0)) := HSW.out.x.cell (i := 0) (by omega)
                  have g4 : wd.frozen? ⟨X, 4, none⟩ = false := HSW.out.x.free
                  have g0' : wd.frozen? ⟨X, 0, none⟩ = false := HSW.out.x.free
                  go_wp2_with fail
                  simp only [nv_add]
                  go_roundg (64 - (k + 1))
                  case measure => have := HGK.out; omega
                  case rel =>
                    refine ⟨k + 1, rfl, by omega, by go_num, ?_⟩
                    rw [HNX.out, HT.out, HU.out]
                    exact ((HSW.out.put 4 _).put 0 _).same (fn_rnd ⟨a0, b0, c0, d0, e0, f0, g0, h0⟩ (kF k) (f k))
                · have x0 : wd.cell? ⟨X, m, none⟩ = _ := HSW.out.x.cell (i := m) (by omega)
                  have x1 : wd.cell? ⟨X, m + 1, none⟩ = _ := HSW.out.x.cell (i := m + 1) (by omega)
                  have g1 : wd.frozen? ⟨X, m + 1, none⟩ = false := HSW.out.x.free
                  go_wp2_with fail
                  go_roundg m
                  case measure => have := HGN.out; omega
                  case rel =>
                    have := HSW.out.put (m + 1) (shf (St.fn ⟨a0, b0, c0, d0, e0, f0, g0, h0⟩) (m + 1) m)
                    rw [shf_step] at this
                    exact ⟨m, rfl, by omega, by go_num, this⟩
            · obtain rfl : k = 64 := by omega
              clear hlt hk
              obtain ⟨s, hs⟩ : ∃ s, s = rounds f h 64 := ⟨_, rfl⟩
              rw [← hs] at HSW
              have HS := Lib.hid hs
              clear hs
              go_wp2_with fail
              go_loopg [21] 8 (fun g i wr => ∃ n : Nat, g = 8 - n ∧ n ≤ 8 ∧ i = .int .i64 (n : Int) ∧ BX w h.fn KB f X (plus s.fn h.fn n) wr)
              case atStart => exact ⟨0, rfl, by omega, rfl, HSW.out.same fun i hi => by unfold plus; rw [if_neg (by omega)]⟩
              case round =>
                clear HSW HGK
                rename World => wd
                obtain ⟨n, hgn, hn, rfl, hsw⟩ := hrel
                have HGN := Lib.hid hgn
                have HSW := Lib.hid hsw
                clear hgn hsw
                by_cases hlt : n < 8
                · obtain ⟨C, hC⟩ : ∃ C : World → Prop, C = fun w' => Below wd.heap.size wd w' := ⟨_, rfl⟩
                  have hk0 : ∀ y : Kin C, y.w.cell? ⟨X, n, none⟩ = some (.int .u32 (nv (plus s.fn h.fn n n))) := by
                    intro ⟨y, h⟩; subst hC; exact below_cells h _ _ (HSW.out.x.cell hlt)
                  have hk1 : ∀ y : Kin C, y.w.cell? ⟨w.heap.size, n, none⟩ = some (.int .u32 (nv (h.fn n))) := by
                    intro ⟨y, h⟩; subst hC; exact below_cells h _ _ (HSW.out.b.hh.cell hlt)
                  have HC := Lib.hid hC
                  clear hC
                  go_wp2_with fail
                  refine wp_region_last_kin C 9 _ rfl rfl (by kernel_rfl) (by kernel_rfl) (by kernel_rfl) (by kernel_rfl) (by kernel_rfl) (by kernel_rfl) (by rw [HC.out]; exact ⟨rfl, rfl, rfl, Nat.le_refl _, fun _ _ => rfl⟩) ?_
                  intro hne
                  dsimp only [List.set, struck]
                  repeat (first | (go_big_quiet_step (fail)) | (quiet_step (fail)))
                  refine wpQuiet_nil ?_
                  intro _ hw'
                  obtain ⟨kx, hw''⟩ := hw'
                  subst hw''
                  obtain ⟨wx, hxc⟩ := kx
                  rw [HC.out] at hxc
                  have hsx := HSW.out.next hxc
                  have d16 : wx.cell? ⟨X, n, none⟩ = _ := hsx.x.cell (i := n) (by omega)
                  have g16 : wx.frozen? ⟨X, n, none⟩ = false := hsx.x.free
                  have HSX := Lib.hid hsx
                  clear hsx hxc hk0 hk1
                  go_wp2_with fail
                  simp only [nv_add]
                  go_roundg (8 - (n + 1))
                  case measure => have := HGN.out; omega
                  case rel =>
                    have := HSX.out.put n (plus s.fn h.fn n n + h.fn n)
                    rw [plus_step] at this
                    exact ⟨n + 1, rfl, by omega, by go_num, this⟩
                · obtain rfl : n = 8 := by omega
                  clear hlt hn
                  go_upto_region 37 with fail
                  refine wp_region_lit ?_
                  refine wpList_load_arr HSW.out.x rfl 117 (.tmp 13) rfl rfl Try.underlying117 rfl (by kernel_rfl) ?_
                  refine wpList_store_arr (f := plus s.fn h.fn 8) HSW.out.b.res rfl 117 (.tmp 4) (.tmp 224) rfl rfl rfl (by kernel_rfl) ?_
                  have hrow := HSW.out.b.res.row (f := plus s.fn h.fn 8)
                  have hbel := below_row HSW.out.b.bel (Nat.le_succ w.heap.size) (arrV 8 (plus s.fn h.fn 8))
                  generalize wd.setRow (w.heap.size + 1) (arrV 8 (plus s.fn h.fn 8)) = wz at *
                  have hl := hrow.load (P := Try.prog)
                  have HB := Lib.hid hbel
                  have HL := Lib.hid hl
                  clear hbel hl hrow
                  go_wp2
                  have hL := HL.out
                  refine bodyPost_ret (v := .agg (arrV 8 (plus s.fn h.fn 8))) (by simp [results, Try.results81, go_sem, hL]) rfl ⟨?_, HB.out⟩
                  rw [fn_add, HS.out, HF.out]
                  rfl
end Go.Proofs.Ytfkcldaogfengaa
