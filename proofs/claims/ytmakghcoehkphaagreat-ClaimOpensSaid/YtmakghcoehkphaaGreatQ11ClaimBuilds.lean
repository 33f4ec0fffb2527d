/-
  ClaimBuilds, part 11: the texts Ce, Ke, Kp, Cf, Cg, one after another. Conditions: none beyond those named at each.
-/
import Derived.Test.YtmakghcoehkphaaGreatQ10ClaimBuilds
import Derived.Test.YtmakghcoehkphaaGreatQ3ClaimBuilds
import Derived.Test.YtmakghcoehkphaaGreatQ8ClaimBuilds
import Derived.Test.YtmakghcoehkphaaGreatKm2
import Derived.Test.YtmakghcoehkphaaGreatCa
import Derived.Test.YtmakghcoehkphaaGreatIa
section
/-
  The size of a child. Conditions: none.
-/
namespace Go.Proofs.YtmakghcoehkphaaGreat
open Go.RowKit Go.BigFrame
set_option linter.unusedVariables false
set_option linter.unusedSimpArgs false

/-- A text of 32 equal bytes. -/
def rep32 (x : UInt8) : ByteArray := ⟨(List.replicate 32 x).toArray⟩
theorem rep32_size (x : UInt8) : (rep32 x).size = 32 := by simp [rep32, ByteArray.size]
theorem rep32_inj {x y : UInt8} (h : rep32 x = rep32 y) : x = y := by
  have h1 : List.replicate 32 x = List.replicate 32 y := by simpa [rep32] using h
  simpa using congrArg (fun l => l.head?) h1
theorem repeat_any (x : UInt8) (w : World) : Calls Tryz.prog 78 #[.string ⟨#[x]⟩, .int .i64 32] w fun e w' => e = .returned (.string (rep32 x)) ∧ Below w.heap.size w w' := by
  have h := Tryz.strings_Repeat (ByteArray.mk #[x]) 32 w (by omega) (by rw [show (ByteArray.mk #[x]).size = 1 from rfl]; omega)
  have hr : ∀ c, Lib.repeatL [x] c = List.replicate c x := by
    intro c
    induction c with
    | zero => rfl
    | succ c ih => simp [Lib.repeatL, ih, List.replicate_succ]
  rw [show (ByteArray.mk #[x]).data.toList = [x] from rfl, hr] at h
  exact h
def aCl : PCl := ⟨rep32 97, 0, 0, 0, ⟨0, 0, 0⟩, 0⟩
def aTx : PTx := childTx aCl (rep32 98) 0 1 0
theorem aCl_ok : aCl.Ok := ⟨by show (rep32 97).size ≤ _; rw [rep32_size]; decide, by show 0 < _; decide, by show (_ : Int) ≤ 0 ∧ (0 : Int) ≤ _; decide, by show (_ : Int) ≤ 0 ∧ (0 : Int) ≤ _; decide, ⟨by show 0 < _; decide, by show 0 < _; decide, by show 0 < _; decide⟩, by show (_ : Int) ≤ 0 ∧ (0 : Int) ≤ _; decide⟩
theorem not_base {x : UInt8} (i : Nat) (h : x ≠ 0) : isBase (rep32 x) i = false := by
  unfold isBase
  rw [show decide (rep32 x = zeros32) = false from decide_eq_false (fun e => h (rep32_inj (show rep32 x = rep32 0 from e)))]
  rfl
theorem aTx_check : checkOf aTx = 0 := child_check (rep32_size _) (rep32_size _) (not_base _ (by decide)) (not_base _ (by decide)) (fun e => absurd (rep32_inj (congrArg Prod.fst e)) (by decide)) (by decide)
theorem aTx_size : sizeE aTx = 113 := child_size aTx_check

def Fact.tx (t : PTx) : Fact := ⟨fun v _ lo hi w => ∀ w' : World, (∀ b, lo ≤ b → b < hi → w'.heap[b]? = w.heap[b]?) → TxAt w' v t, fun hk h w2 h2 => h w2 fun b h3 h4 => (h2 b h3 h4).trans (hk b h4)⟩
def RZ (X : Nat) : Nat → Fact
  | 0 => .val fun _ => clV aCl
  | 1 => .val fun _ => .string (rep32 98)
  | 2 => .val fun _ => .agg #[.string (rep32 98), .int .u32 0]
  | 3 => .tx aTx
  | 4 => .val fun _ => .tuple #[.int .i64 113, .int .i64 0]
  | 5 => .val fun _ => .tuple #[.int .i64 113, .int .i64 0]
  | 6 => .val fun _ => .int .i64 113
  | 7 => .val fun _ => .int .i64 0
  | 8 => .val fun _ => .int .i64 113
  | 9 => .val fun _ => .int .i64 0
  | _ => .any
end Go.Proofs.YtmakghcoehkphaaGreat
end

section
/-
  What is built of claims opens its locks, as plain data. Conditions: those named in each theorem.
-/
namespace Go.Proofs.YtmakghcoehkphaaGreat
open Go.RowKit
set_option linter.unusedVariables false
set_option linter.unusedSimpArgs false
theorem open_anyK (s : ByteArray) {t : PTx} {k : Nat} {x : PIn} {l : List PBr} {n tag : Nat} {br : PBr} (hx : t.ins[k]? = some x) (hw : x.wit = [signW n tag]) (hn : n < 3) (ht : tag < 65536) (hl : lockGet s = some l) (hb : l[n]? = some br) (hbt : br.tag = tag)
    (hd : br.delay ≤ waitsOf t k) (hh : br.height ≤ t.lock) (hs : x.seq ≠ 4294967295) : openOf s t k = 0 := by
  rw [openOf_at hx]
  have hc : chosenOf s x.wit = (br, true) := by
    unfold chosenOf
    rw [hl, hw, signedOf_sign hn ht]
    dsimp only
    rw [hb]
    simp [hbt]
  unfold openAt
  rw [hc]
  dsimp only
  rw [if_neg (by decide), if_neg (by omega), if_neg (fun e => by rcases e.2 with q | q; omega; exact hs q)]
theorem seqOf_max {d : Nat} (h : d < 65536) : seqOf d ≠ 4294967295 := by unfold seqOf; split <;> omega
theorem high_ge : ∀ (l : List PCl) (a : PCl), a ∈ l → a.lock.height ≤ highOf l := by
  have h0 : ∀ (l : List PCl) (k : Nat), k ≤ l.foldl (fun h a => max h a.lock.height) k := by
    intro l
    induction l with
    | nil => intro k; exact Nat.le_refl _
    | cons a l ih => intro k; exact Nat.le_trans (Nat.le_max_left _ _) (ih _)
  have h1 : ∀ (l : List PCl) (k : Nat) (a : PCl), a ∈ l → a.lock.height ≤ l.foldl (fun h a => max h a.lock.height) k := by
    intro l
    induction l with
    | nil => intro k a h; simp at h
    | cons b l ih =>
      intro k a h
      rcases List.mem_cons.1 h with rfl | h
      · exact Nat.le_trans (Nat.le_max_right k _) (h0 l _)
      · exact ih _ a h
  exact fun l a h => h1 l 0 a h
theorem claim_at {l : List PCl} (cid : ByteArray) (ci tag : Nat) (v : Int) {i : Nat} {a : PCl} (h : l[i]? = some a) : (claimTx l cid ci tag v).ins[i]? = some ⟨a.id, a.idx, seqOf a.lock.delay, [signW a.br.toNat tag]⟩ := by
  have hi := (List.getElem?_eq_some_iff.1 h).1
  unfold claimTx insOf
  dsimp only
  rw [List.getElem?_append_left (by rw [List.length_map]; exact hi), List.getElem?_map, h]
  rfl
theorem claim_last (l : List PCl) (cid : ByteArray) (ci tag : Nat) (v : Int) : (claimTx l cid ci tag v).ins[l.length]? = some ⟨cid, ci, 4294967293, [signW 0 tag]⟩ := by
  unfold claimTx insOf
  dsimp only
  rw [List.getElem?_append_right (by rw [List.length_map]; exact Nat.le_refl _), List.length_map, Nat.sub_self]
  rfl
theorem waits_at {t : PTx} {k : Nat} {id : ByteArray} {idx d : Nat} {ws : List ByteArray} (hx : t.ins[k]? = some ⟨id, idx, seqOf d, ws⟩) (hv : t.ver = 2) (hd : d < 65536) : d ≤ waitsOf t k := by
  unfold waitsOf
  rw [hx]
  dsimp only
  by_cases h : 0 < d
  · have e : seqOf d = d := by unfold seqOf; rw [if_pos h]
    rw [e, if_pos ⟨by omega, by omega⟩]
    omega
  · omega
theorem claim_opens {l : List PCl} (cid : ByteArray) (ci tag : Nat) (v : Int) {i : Nat} {a : PCl} {s : ByteArray} (h : l[i]? = some a) (ht : tag < 65536) (hd : a.lock.delay < 65536) (hb : 0 ≤ a.br ∧ a.br ≤ 2) (hs : lockGet s = some [a.lock, a.lock, a.lock]) (hat : a.lock.tag = tag) :
    openOf s (claimTx l cid ci tag v) i = 0 := by
  have hx := claim_at cid ci tag v h
  have hbr : a.br.toNat < 3 := by omega
  refine open_anyK s hx rfl hbr ht hs (br := a.lock) ?_ hat (waits_at hx rfl hd) (high_ge l a (List.mem_iff_getElem?.2 ⟨i, h⟩)) (seqOf_max hd)
  have : a.br.toNat = 0 ∨ a.br.toNat = 1 ∨ a.br.toNat = 2 := by omega
  rcases this with e | e | e <;> rw [e] <;> rfl
theorem coin_opens (l : List PCl) (cid : ByteArray) (ci tag : Nat) (v : Int) {s : ByteArray} (ht : tag < 65536) (hs : lockGet s = some [⟨tag, 0, 0⟩]) : openOf s (claimTx l cid ci tag v) l.length = 0 :=
  open_anyK s (claim_last l cid ci tag v) rfl (by decide) ht hs (br := ⟨tag, 0, 0⟩) rfl rfl (Nat.zero_le _) (Nat.zero_le _) (show (4294967293 : Nat) ≠ 4294967295 by decide)
end Go.Proofs.YtmakghcoehkphaaGreat
end

section
/-
  The size of claims together, and what they bid, both ways. Conditions: the numbers are ints.
-/
namespace Go.Proofs.YtmakghcoehkphaaGreat
open Go.RowKit Go.BigFrame
set_option linter.unusedVariables false
set_option linter.unusedSimpArgs false

/-! ### claims of one's own -/
def pCl (i : Nat) : PCl := ⟨rep32 112, i, 0, 0, ⟨0, 0, 0⟩, 0⟩
def pLs (n : Nat) : List PCl := (List.range n).map pCl
theorem pLs_snoc (n : Nat) : pLs (n + 1) = pLs n ++ [pCl n] := by simp [pLs, List.range_succ]
theorem pLs_len (n : Nat) : (pLs n).length = n := by simp [pLs]
theorem pCl_ok {i : Nat} (h : i < 4294967296) : (pCl i).Ok := ⟨by show (rep32 112).size ≤ _; rw [rep32_size]; decide, h, by show (_ : Int) ≤ 0 ∧ (0 : Int) ≤ _; decide, by show (_ : Int) ≤ 0 ∧ (0 : Int) ≤ _; decide, ⟨by show 0 < _; decide, by show 0 < _; decide, by show 0 < _; decide⟩, by show (_ : Int) ≤ 0 ∧ (0 : Int) ≤ _; decide⟩
def pTx (n : Nat) : PTx := claimTx (pLs n) (rep32 112) n 1 0
theorem pTx_check {n : Nat} (hn : n ≤ 32) : checkOf (pTx n) = 0 := by
  have hpts : ptsOf (pTx n) = (List.range (n + 1)).map fun i => (rep32 112, i) := by
    unfold ptsOf pTx claimTx insOf pLs
    simp [List.range_succ, pCl, Function.comp_def]
  refine claim_check (by rw [pLs_len]; exact hn) (fun x hx => ?_) ?_ (by decide)
  · have h1 : (x.id, x.idx) ∈ ptsOf (pTx n) := by unfold ptsOf; exact List.mem_map.2 ⟨x, hx, rfl⟩
    rw [hpts] at h1
    obtain ⟨i, -, e⟩ := List.mem_map.1 h1
    have e1 : rep32 112 = x.id := congrArg Prod.fst e
    rw [← e1]
    exact ⟨rep32_size _, not_base _ (by decide)⟩
  · show (ptsOf (pTx n)).Nodup
    rw [hpts]
    exact List.pairwise_map.2 ((List.nodup_range).imp fun h e => h (congrArg Prod.snd e))
theorem pTx_size {n : Nat} (hn : n ≤ 32) : sizeE (pTx n) = sizeN n := by
  have h := claim_size (l := pLs n) (cid := rep32 112) (ci := n) (tag := 1) (v := 0) (by rw [pLs_len]; exact hn) (pTx_check hn)
  rw [pLs_len] at h
  exact h
theorem point_any (n : Nat) (hn : n < 4294967296) (w : World) : Calls Tryz.prog 44 #[.int .i64 n] w fun e w' => e = .returned (.agg #[.string (rep32 112), .int .u32 n]) ∧ Below w.heap.size w w' := by
  have hw : IntKind.u32.wrap (n : Int) = (n : Int) := by rw [IntKind.wrap_u32]; omega
  have HQ := Lib.hid (repeat_any 112)
  generalize rep32 112 = s at *
  go_enter Tryz.func44, Tryz.ntmps44
  go_upto_region 1 with fail
  have hz := heap_alloc_new w (.cells #[.string ⟨#[]⟩, .int .u32 0] 25)
  have hal : Below w.heap.size w (w.alloc (.cells #[.string ⟨#[]⟩, .int .u32 0] 25)) := (Below.refl _ _).alloc (Nat.le_refl _) _
  obtain ⟨X, hX⟩ : ∃ q, q = w.heap.size := ⟨_, rfl⟩
  rw [← hX] at hz ⊢
  generalize w.alloc (.cells #[.string ⟨#[]⟩, .int .u32 0] 25) = w0 at *
  have hX1 : w.heap.size ≤ X := by omega
  have HZ := Lib.hid hz
  have HB := Lib.hid hal
  clear hz hal hX
  go_wp2_with fail
  refine (HQ.out w0).mono ?_
  rintro e w1 ⟨rfl, hb⟩
  have hr := stay HZ.out hb
  have r0 : w1.cell? ⟨X, 0, none⟩ = some (.string ⟨#[]⟩) := cell_at hr
  have r1 : w1.cell? ⟨X, 1, none⟩ = some (.int .u32 0) := cell_at hr
  have f0 : w1.frozen? ⟨X, 0, none⟩ = false := free_at hr
  have f1 : w1.frozen? ⟨X, 1, none⟩ = false := free_at hr
  have HB1 := Lib.hid (((HB.out.trans (hb.mono HB.out.size)).setCell (p := ⟨X, 0, none⟩) hX1 (.string s)).setCell (p := ⟨X, 1, none⟩) hX1 (.int .u32 n))
  clear hr hb
  go_wp2_with fail
  exact bodyPost_ret (v := .agg #[.string s, .int .u32 n]) (by simp [results, Tryz.results44, go_sem, r0, r1]) rfl ⟨rfl, HB1.out⟩

/-! ### the size -/
def sizeS (n : Int) : Int × Int := if 1 ≤ n ∧ n ≤ 32 then (sizeN n.toNat, 0) else (0, 6)
set_option maxRecDepth 100000 in
set_option maxHeartbeats 4000000 in
theorem ksize_any (n : Int) (w : World) : Calls Tryz.prog 14 #[.int .i64 n] w fun e w' => e = .returned (.tuple #[.int .i64 (sizeS n).1, .int .i64 (sizeS n).2]) ∧ Below w.heap.size w w' := by
  by_cases hn : 1 ≤ n ∧ n ≤ 32
  rotate_left
  · have HE := Lib.hid (show sizeS n = (0, 6) from if_neg hn)
    have HC := Lib.hid (countedC_any n w)
    rw [show (decide (1 ≤ n) && decide (n ≤ 32)) = false by rw [Bool.and_eq_false_iff, decide_eq_false_iff_not, decide_eq_false_iff_not]; omega] at HC
    clear hn
    go_enter Tryz.func14, Tryz.ntmps14
    go_wp2_with fail
    refine HC.out.mono ?_
    rintro e w' ⟨rfl, rfl⟩
    go_wp2_with fail
    go_ret2
    exact ⟨by rw [HE.out]; rfl, Below.refl _ _⟩
  · obtain ⟨m, rfl⟩ : ∃ m : Nat, n = m := ⟨n.toNat, by omega⟩
    have hm : m ≤ 32 := by omega
    have HE := Lib.hid (show sizeS m = (sizeN m, 0) by unfold sizeS; rw [if_pos hn, show ((m : Nat) : Int).toNat = m by omega])
    have HC := Lib.hid (countedC_any m w)
    rw [show (decide (1 ≤ (m : Int)) && decide ((m : Int) ≤ 32)) = true by simp only [Bool.and_eq_true, decide_eq_true_eq]; exact hn] at HC
    clear hn
    go_enter Tryz.func14, Tryz.ntmps14
    go_wp2_with fail
    refine HC.out.mono ?_
    rintro e w' ⟨rfl, rfl⟩
    go_wp2_with fail
    go_loopg [4, 10] m (fun g r i wr => ∃ (k : Nat) (r0 : Value), r = r0 ∧ g = m - k ∧ k ≤ m ∧ i = .int .i64 k ∧ Below w.heap.size w wr ∧ ClsOwn w.heap.size wr r0 (pLs k))
    case atStart => exact ⟨0, _, rfl, rfl, by omega, rfl, Below.refl _ _, clsOwn_nil _ _⟩
    case round =>
      clear HC
      rename World => wo
      obtain ⟨k, r0, hr0, hgk, hk, rfl, hb, hown⟩ := hrel
      obtain rfl := hr0.symm
      have HGK := Lib.hid hgk
      have HB := Lib.hid hb
      have HOWN := Lib.hid hown
      clear hgk hb hown
      by_cases hlt : k < m
      · go_wp2_with fail
        refine (point_any k (by omega) wo).mono ?_
        rintro e w1 ⟨rfl, hb⟩
        have hown1 := HOWN.out.below hb
        have HB1 := Lib.hid (HB.out.trans (hb.mono HB.out.size))
        obtain ⟨s, hs⟩ : ∃ s, s = rep32 112 := ⟨_, rfl⟩
        rw [← hs]
        obtain ⟨i0, hi, hz0, hz1, hz2⟩ := info_parts info_cl
        have hlk := pLs_len k
        obtain ⟨a8, c8, w6, hrun, hown6, hb6, hg6, hv6⟩ := append_one (P := Tryz.prog) Tryz.underlying22 hi hz0 hz1 hz2 rfl hown1.row #[.string s, .int .u32 k, .int .i64 0, .int .i64 0, .int .u16 0, .int .u16 0, .int .u32 0, .int .i64 0] rfl (by simp [Value.oneCell']) (by rw [maxLen_eq, hlk]; omega) (by rw [hlk]; omega) (by have := HB1.out.size; omega) (ty := 22)
        have HO6 := Lib.hid (show ClsOwn w.heap.size w6 (.slice a8 (k + 1) c8) (pLs (k + 1)) from by
          rw [pLs_snoc]
          refine ClsOwn.snoc (w := w1) HOWN.out.ok (pCl_ok (by omega)) ?_
          rw [hlk] at hown6 ⊢
          subst hs
          exact hown6)
        have HB6 := Lib.hid (HB1.out.trans hb6)
        rw [hlk] at hrun
        obtain ⟨a6, c6', hrs, -, -⟩ := ownsRow_shape hown1.row
        rw [hlk] at hrs
        subst hrs
        have HR := Lib.hid hrun
        clear hb hown1 hs hrun hown6 hb6 hg6 hv6 hi hz0 hz1 hz2 hlk
        go_wp2_with (at_builtin; refine wpList_append_run rfl (.tmp 13) (.tmp 17) 22 22 rfl rfl rfl HR.out ?_)
        go_roundg (m - (k + 1))
        case measure => have := HGK.out; omega
        case rel => exact ⟨k + 1, _, rfl, rfl, by omega, by go_num, HB6.out, HO6.out⟩
      · obtain rfl : m = k := by omega
        have hsl := HOWN.out.sl
        have hlk := pLs_len m
        obtain ⟨a6, c6', hrs, -, -⟩ := ownsRow_shape HOWN.out.row
        rw [hlk] at hrs
        subst hrs
        have HSL := Lib.hid hsl
        clear hsl hlk
        go_wp2_with fail
        refine (point_any m (by omega) wo).mono ?_
        rintro e w1 ⟨rfl, hb⟩
        have HB1 := Lib.hid (HB.out.trans (hb.mono HB.out.size))
        have HMD := Lib.hid (cmade_any _ (pLs m) (rep32 112) m 1 0 w1 (HSL.out.below hb) (by rw [pLs_len]; omega) (fun a ha => by obtain ⟨i, -, rfl⟩ := List.mem_map.1 ha; exact ⟨Int.le_refl _, by show (0 : Int) < 3; decide⟩) (by rw [rep32_size]; decide) (by omega) (by decide) (by decide))
        have HP := Lib.hid (show claimTx (pLs m) (rep32 112) m 1 0 = pTx m from rfl)
        rw [HP.out] at HMD
        clear hb
        go_wp2_with fail
        refine HMD.out.mono ?_
        rintro e w2 ⟨ia, c, q, rfl, hq, gq, htx, hb⟩
        have HB2 := Lib.hid (HB1.out.trans (hb.mono HB1.out.size))
        have HI := Lib.hid (isize_any _ (pTx m) w2 htx.at (by show 1 ≤ 1000; decide))
        rw [pTx_check hm, pTx_size hm] at HI
        generalize (pTx m).ins.length = ni at *
        generalize (pTx m).lock = lk at *
        clear htx gq hb hq HMD
        go_wp2_with fail
        refine HI.out.mono ?_
        rintro e w3 ⟨rfl, hb⟩
        have HB3 := Lib.hid (HB2.out.trans (hb.mono HB2.out.size))
        clear hb
        go_wp2_with fail
        go_ret2
        exact ⟨by rw [HE.out]; rfl, HB3.out⟩
theorem rksize_any (n : Nat) (hn : n ≤ 32) (w : World) : Calls Tryz.prog 15 #[.int .i64 n] w fun e w' => e = .returned (.int .i64 (sizeN n)) ∧ w = w' := by
  obtain ⟨r, hr⟩ : ∃ r, r = sizeN n := ⟨_, rfl⟩
  rw [← hr]
  unfold sizeN at hr
  have hW : (283 + 169 * (n : Int)).tmod 4 = (283 + 169 * (n : Int)) % 4 := Int.tmod_eq_emod_of_nonneg (by omega)
  have hD : (283 + 169 * (n : Int)).tdiv 4 = (283 + 169 * (n : Int)) / 4 := Int.tdiv_eq_ediv_of_nonneg (by omega)
  have hE : 4 * (69 + 41 * (n : Int)) + 2 + 5 * ((n : Int) + 1) = 283 + 169 * (n : Int) := by omega
  by_cases h4 : (283 + 169 * (n : Int)) % 4 = 0
  · have HR := Lib.hid (show r = (283 + 169 * (n : Int)) / 4 by omega)
    clear hr
    go_enter Tryz.func15, Tryz.ntmps15
    go_wp2_with fail
    go_ret
    exact ⟨by rw [HR.out]; rfl, rfl⟩
  · have HR := Lib.hid (show r = (283 + 169 * (n : Int)) / 4 + 1 by omega)
    clear hr
    go_enter Tryz.func15, Tryz.ntmps15
    go_wp2_with fail
    go_ret
    exact ⟨by rw [HR.out]; rfl, rfl⟩
/-! ### what they bid -/
def rateUp (r : Int) : Int := if 0 ≤ r then max r 1000 else r
def bidS (r n : Int) : Int × Int := if 1 ≤ n ∧ n ≤ 32 then feeE (rateUp r) (sizeN n.toNat) else (0, 6)
set_option maxHeartbeats 1000000 in
theorem kbid_any (r n : Int) (w : World) : Calls Tryz.prog 16 #[.int .i64 r, .int .i64 n] w fun e w' => e = .returned (.tuple #[.int .i64 (bidS r n).1, .int .i64 (bidS r n).2]) ∧ Below w.heap.size w w' := by
  have HS := Lib.hid (ksize_any n w)
  by_cases hn : 1 ≤ n ∧ n ≤ 32
  · have HE := Lib.hid (show bidS r n = feeE (rateUp r) (sizeN n.toNat) from if_pos hn)
    have HZ := Lib.hid (show sizeS n = (sizeN n.toNat, 0) from if_pos hn)
    rw [HZ.out] at HS
    generalize sizeN n.toNat = sz at *
    by_cases hr : 0 ≤ r
    · have HU := Lib.hid (show rateUp r = max r 1000 from if_pos hr)
      have HF := Lib.hid (fun y => fee_any (max r 1000) sz y)
      rw [HU.out] at HE
      rw [HE.out]
      generalize feeE (max r 1000) sz = fe at *
      obtain ⟨f1, f2⟩ := fe
      unfold PIs at HF
      dsimp only at *
      clear hn HE HU HZ
      go_enter Tryz.func16, Tryz.ntmps16
      go_wp2_with fail
      refine HS.out.mono ?_
      rintro e w1 ⟨rfl, hb⟩
      have HB := Lib.hid hb
      clear hb
      go_wp2_with fail
      refine (HF.out w1).mono ?_
      rintro e w2 ⟨rfl, rfl⟩
      go_wp2_with fail
      go_ret2
      exact ⟨rfl, HB.out⟩
    · have HU := Lib.hid (show rateUp r = r from if_neg hr)
      have HF := Lib.hid (fun y => fee_any r sz y)
      rw [HU.out] at HE
      rw [HE.out]
      generalize feeE r sz = fe at *
      obtain ⟨f1, f2⟩ := fe
      unfold PIs at HF
      dsimp only at *
      clear hn HE HU HZ
      go_enter Tryz.func16, Tryz.ntmps16
      go_wp2_with fail
      refine HS.out.mono ?_
      rintro e w1 ⟨rfl, hb⟩
      have HB := Lib.hid hb
      clear hb
      go_wp2_with fail
      refine (HF.out w1).mono ?_
      rintro e w2 ⟨rfl, rfl⟩
      go_wp2_with fail
      go_ret2
      exact ⟨rfl, HB.out⟩
  · have HE := Lib.hid (show bidS r n = (0, 6) from if_neg hn)
    have HZ := Lib.hid (show sizeS n = (0, 6) from if_neg hn)
    rw [HZ.out] at HS
    clear hn HZ
    go_enter Tryz.func16, Tryz.ntmps16
    go_wp2_with fail
    refine HS.out.mono ?_
    rintro e w1 ⟨rfl, hb⟩
    have HB := Lib.hid hb
    clear hb
    go_wp2_with fail
    go_ret2
    exact ⟨by rw [HE.out]; rfl, HB.out⟩
set_option maxHeartbeats 1000000 in
theorem rkbid_any (r n : Int) (w : World) : Calls Tryz.prog 17 #[.int .i64 r, .int .i64 n] w fun e w' => e = .returned (.tuple #[.int .i64 (bidS r n).1, .int .i64 (bidS r n).2]) ∧ w = w' := by
  by_cases h1 : n < 1
  · have HE := Lib.hid (show bidS r n = (0, 6) from if_neg (by omega))
    go_enter Tryz.func17, Tryz.ntmps17
    go_wp2_with fail
    go_ret2
    exact ⟨by rw [HE.out]; rfl, rfl⟩
  by_cases h2 : 32 < n
  · have HE := Lib.hid (show bidS r n = (0, 6) from if_neg (by omega))
    go_enter Tryz.func17, Tryz.ntmps17
    go_wp2_with fail
    go_ret2
    exact ⟨by rw [HE.out]; rfl, rfl⟩
  obtain ⟨m, rfl⟩ : ∃ m : Nat, n = m := ⟨n.toNat, by omega⟩
  have HE := Lib.hid (show bidS r m = feeE (rateUp r) (sizeN m) by unfold bidS; rw [if_pos (by omega), show ((m : Nat) : Int).toNat = m by omega])
  have hm0 : ¬ m = 0 := by omega
  have HS := Lib.hid (fun y => rksize_any m (by omega) y)
  generalize sizeN m = sz at *
  by_cases hr : 0 ≤ r
  · by_cases hr2 : r < 1000
    · have HU := Lib.hid (show rateUp r = 1000 by unfold rateUp; rw [if_pos hr]; omega)
      have HF := Lib.hid (fun y => rfee_any 1000 sz y)
      rw [HU.out] at HE
      rw [HE.out]
      generalize feeE 1000 sz = fe at *
      obtain ⟨f1, f2⟩ := fe
      unfold PIs at HF
      dsimp only at *
      clear HE HU
      go_enter Tryz.func17, Tryz.ntmps17
      go_wp2_with fail
      refine (HS.out w).mono ?_
      rintro e w1 ⟨rfl, rfl⟩
      go_wp2_with fail
      refine (HF.out w).mono ?_
      rintro e w2 ⟨rfl, rfl⟩
      go_wp2_with fail
      go_ret2
      exact ⟨rfl, rfl⟩
    · have HU := Lib.hid (show rateUp r = r by unfold rateUp; rw [if_pos hr]; omega)
      have HF := Lib.hid (fun y => rfee_any r sz y)
      rw [HU.out] at HE
      rw [HE.out]
      generalize feeE r sz = fe at *
      obtain ⟨f1, f2⟩ := fe
      unfold PIs at HF
      dsimp only at *
      clear HE HU
      go_enter Tryz.func17, Tryz.ntmps17
      go_wp2_with fail
      refine (HS.out w).mono ?_
      rintro e w1 ⟨rfl, rfl⟩
      go_wp2_with fail
      refine (HF.out w).mono ?_
      rintro e w2 ⟨rfl, rfl⟩
      go_wp2_with fail
      go_ret2
      exact ⟨rfl, rfl⟩
  · have HU := Lib.hid (show rateUp r = r from if_neg hr)
    have HF := Lib.hid (fun y => rfee_any r sz y)
    rw [HU.out] at HE
    rw [HE.out]
    generalize feeE r sz = fe at *
    obtain ⟨f1, f2⟩ := fe
    unfold PIs at HF
    dsimp only at *
    clear HE HU
    go_enter Tryz.func17, Tryz.ntmps17
    go_wp2_with fail
    refine (HS.out w).mono ?_
    rintro e w1 ⟨rfl, rfl⟩
    go_wp2_with fail
    refine (HF.out w).mono ?_
    rintro e w2 ⟨rfl, rfl⟩
    go_wp2_with fail
    go_ret2
    exact ⟨rfl, rfl⟩
end Go.Proofs.YtmakghcoehkphaaGreat
end

section
/-
  The fee that a child bids, both ways. Conditions: the numbers are ints.
-/
namespace Go.Proofs.YtmakghcoehkphaaGreat
open Go.RowKit Go.BigFrame
set_option linter.unusedVariables false
set_option linter.unusedSimpArgs false

def bidE (rate fee size : Int) : Int × Int :=
  if goodA fee = false ∨ size < 0 ∨ 1000000 < size then (0, 3) else if (feeE rate (size + 113)).2 ≠ 0 then (0, (feeE rate (size + 113)).2) else (max ((feeE rate (size + 113)).1 - fee) 113, 0)
theorem feeE_cases (r s : Int) : (∃ n, feeE r s = (n, 0) ∧ 0 ≤ n ∧ n ≤ 100000000001 ∧ n = (r * s + 999) / 1000 ∧ (0 ≤ r ∧ r ≤ 100000000) ∧ 0 ≤ s ∧ s ≤ 1000000) ∨ feeE r s = (0, 3) := by
  by_cases h : (0 ≤ r ∧ r ≤ 100000000) ∧ 0 ≤ s ∧ s ≤ 1000000
  · have hm := mul_in h
    refine .inl ⟨(r * s + 999) / 1000, if_pos h, by omega, by omega, rfl, h⟩
  · exact .inr (if_neg h)
end Go.Proofs.YtmakghcoehkphaaGreat
end

section
/-
  child.Build. Conditions: the numbers are ones of their kinds.
-/
namespace Go.Proofs.YtmakghcoehkphaaGreat
open Go.RowKit Go.BigFrame
set_option linter.unusedVariables false
set_option linter.unusedSimpArgs false

def enV (cid : ByteArray) (ci : Nat) (cv : Int) (cs : ByteArray) (ch : Int) : Value := .agg #[.string cid, .int .u32 ci, .int .i64 cv, .string cs, .int .i64 ch]
def BuildIs (z : PTx × Int) (w : World) (e : Ending) (w' : World) : Prop := ∃ v, e = .returned (.tuple #[v, .int .i64 z.2]) ∧ TxNew w.heap.size w' v z.1 ∧ Below w.heap.size w w'
theorem build_is {z : PTx × Int} {t : PTx} {c : Int} {v : Value} {w w' : World} (h : z = (t, c)) (ht : TxNew w.heap.size w' v t) (hb : Below w.heap.size w w') : BuildIs z w (.returned (.tuple #[v, .int .i64 c])) w' := ⟨v, by rw [h], by rw [h]; exact ht, hb⟩
theorem add2_cases (a b : Int) : (add2 a b = (a + b, 0) ∧ goodA a = true ∧ goodA b = true ∧ goodA (a + b) = true) ∨ add2 a b = (0, 3) := by
  unfold add2
  by_cases h : (goodA a && goodA b && goodA (a + b)) = true
  · rw [if_pos h]
    simp only [Bool.and_eq_true] at h
    exact .inl ⟨rfl, h.1.1, h.1.2, h.2⟩
  · rw [if_neg h]; exact .inr rfl
set_option maxHeartbeats 400000 in
theorem add2_any (s a : Int) (w : World) : Calls Tryz.prog 91 #[.int .i64 s, .int .i64 a] w (fun e w' => e = .returned (.tuple #[.int .i64 (add2 s a).1, .int .i64 (add2 s a).2]) ∧ w = w') := by
  by_cases hs : goodA s = true
  · have h : addA s a = add2 s a := by unfold addA add2; rw [hs]; simp
    rw [← h]
    exact add_any s a hs w
  · have hs' : goodA s = false := by simpa using hs
    have HE := Lib.hid (show add2 s a = (0, 3) by unfold add2; rw [hs']; rfl)
    have HG := Lib.hid (good_any s w)
    rw [hs'] at HG
    clear hs hs'
    go_enter Tryz.func91, Tryz.ntmps91
    go_wp2_with fail
    refine HG.out.mono ?_
    rintro e w' ⟨rfl, rfl⟩
    go_wp2_with fail
    go_ret2
    exact ⟨by rw [HE.out]; rfl, rfl⟩
theorem set4_zero {base : Nat} {w w' : World} (h : Below base w w') {b : Nat} (hb : base ≤ b) (u0 u1 u2 u3 : Value) : Below base w ((((w'.setCell ⟨b, 0, none⟩ u0).setCell ⟨b, 1, none⟩ u1).setCell ⟨b, 2, none⟩ u2).setCell ⟨b, 3, none⟩ u3) :=
  (((h.setCell hb _).setCell hb _).setCell hb _).setCell hb _
theorem child_bad {a : PCl} {cid : ByteArray} {ci : Nat} {cv : Int} {tag : Nat} {fee : Int} (h : tag = 0 ∨ a.br < 0 ∨ 2 < a.br ∨ 0 < a.lock.height) : childOf a cid ci cv tag fee = (noTx, 2) := if_pos h

end Go.Proofs.YtmakghcoehkphaaGreat
end
