/-
  CheckFeesCard, part 9: the texts Lock15, Gk, Gl, Sgn, one after another. Conditions: none beyond those named at each.
-/
import Derived.Test.YtelindgnkpfkiaaGreatDoorQ7CheckFeesCard
import Derived.Test.YtelindgnkpfkiaaGreatDoorQ8CheckFeesCard
import Derived.Test.YtelindgnkpfkiaaGreatDoorFit
import Derived.Test.YtelindgnkpfkiaaGreatDoorQ6CheckFeesCard
import Derived.Test.YtelindgnkpfkiaaGreatDoorQ4CheckFeesCard
section
/-
  Locks, the fifteenth part: the document's Ripe. Conditions: none beyond each theorem's own.
-/
namespace Go.Proofs.YtelindgnkpfkiaaGreatDoor
open Go.RowKit Go.BigFrame
set_option linter.unusedVariables false

set_option maxRecDepth 100000 in
set_option maxHeartbeats 4000000 in
theorem rripe_any (v : Value) (t : PTx) (i c h : Int) (w : World) (hv : TxAt w v t) (hh1 : h ≤ 9223372036854775807) :
    Calls Tryz.prog 45 #[v, .int .i64 i, .int .i64 c, .int .i64 h] w (RipeIs t i c h w) := by
  obtain ⟨va, vc, au, nu, cu, rfl, hnm, hlk, hins⟩ := tx_shape hv
  have HV := Lib.hid hv
  have HINS := Lib.hid hins
  have hfin : ∀ ob, Below w.heap.size w (w.alloc ob) := fun ob => (Below.refl _ _).alloc (Nat.le_refl _) _
  have HFIN := Lib.hid hfin
  clear hv hins hfin
  cases hin : isIn t i
  case false =>
    have HR := Lib.hid (show ripeOf t i c h = false by unfold ripeOf; rw [hin]; rfl)
    have hor : i < 0 ∨ (t.ins.length : Int) ≤ i := by
      unfold isIn at hin
      rw [decide_eq_false_iff_not] at hin
      omega
    generalize t.ins.length = n at *
    clear hin
    by_cases h0 : i < 0
    · clear hor
      go_enter Tryz.func45, Tryz.ntmps45
      go_wp2
      go_ret
      exact ripe_is HR.out (HFIN.out _)
    · have hge : (n : Int) ≤ i := by omega
      clear hor
      go_enter Tryz.func45, Tryz.ntmps45
      go_wp2
      go_ret
      exact ripe_is HR.out (HFIN.out _)
  obtain ⟨k, rfl, hk⟩ := isIn_nat hin
  have hrip : ripeOf t k c h = (okHeight c && okHeight h && decide (c + waitsOf t k ≤ h) && (decide ((t.lock : Int) < h) || t.ins.all lastSeq)) := by unfold ripeOf; rw [hin]; simp
  have HRIP := Lib.hid hrip
  have HWT := Lib.hid (fun w' hw' => rwaits_any _ t k w' (HV.out.mono hw') hk)
  have hwl := waitsOf_lt t k
  clear hrip hin
  obtain ⟨n, hn⟩ : ∃ n, n = t.ins.length := ⟨_, rfl⟩
  rw [← hn] at hk hnm HINS HWT ⊢
  have HN := Lib.hid hn
  clear hn
  generalize waitsOf t k = wf at *
  generalize t.lock = lk at *
  generalize t.ver = ver at *
  by_cases hbad : c < 0 ∨ h < 0 ∨ 1000000 < c ∨ 1000000 < h
  · have HR := Lib.hid (show ripeOf t k c h = false by
      rw [HRIP.out]
      have : (okHeight c && okHeight h) = false := by
        unfold okHeight
        rcases hbad with h | h | h | h
        · rw [decide_eq_false (by omega)]; rfl
        · rw [Bool.and_eq_false_iff]; right; exact decide_eq_false (by omega)
        · rw [decide_eq_false (by omega)]; rfl
        · rw [Bool.and_eq_false_iff]; right; exact decide_eq_false (by omega)
      rw [this]; rfl)
    by_cases h1 : c < 0
    · clear hbad
      go_enter Tryz.func45, Tryz.ntmps45
      go_wp2
      go_ret
      exact ripe_is HR.out (HFIN.out _)
    by_cases h2 : h < 0
    · clear hbad
      go_enter Tryz.func45, Tryz.ntmps45
      go_wp2
      go_ret
      exact ripe_is HR.out (HFIN.out _)
    by_cases h3 : 1000000 < c
    · clear hbad
      go_enter Tryz.func45, Tryz.ntmps45
      go_wp2
      go_ret
      exact ripe_is HR.out (HFIN.out _)
    have h4 : 1000000 < h := by omega
    clear hbad
    go_enter Tryz.func45, Tryz.ntmps45
    go_wp2
    go_ret
    exact ripe_is HR.out (HFIN.out _)
  have hok : (okHeight c && okHeight h) = true := by
    unfold okHeight; rw [decide_eq_true (by omega), decide_eq_true (by omega)]; rfl
  have HOK := Lib.hid hok
  have hc0 : ¬ c < 0 := by omega
  have hh0 : ¬ h < 0 := by omega
  have hc1 : ¬ 1000000 < c := by omega
  have hh2 : ¬ 1000000 < h := by omega
  clear hok hbad
  go_enter Tryz.func45, Tryz.ntmps45
  go_wp2_with fail
  refine (HWT.out _ (fun p v hp => cell_over hp _)).mono ?_
  rintro e w1 ⟨rfl, hb1⟩
  have e1 : w1.heap[w.heap.size]? = _ := (hb1.block w.heap.size (by simp)).trans (heap_alloc_new w _)
  have hw1 : Below w.heap.size w w1 := ((Below.refl _ _).alloc (Nat.le_refl _) _).trans (hb1.mono (by simp))
  have q1 : w1.cell? ⟨w.heap.size, 1, none⟩ = _ := cell_at e1
  have q3 : w1.cell? ⟨w.heap.size, 3, none⟩ = _ := cell_at e1
  have HW1 := Lib.hid hw1
  have HI1 := Lib.hid (HINS.out.mono (below_cells hw1))
  clear hb1 e1 hw1
  by_cases hlt : h < c + wf
  · have HR := Lib.hid (show ripeOf t k c h = false by rw [HRIP.out, HOK.out, decide_eq_false (by omega)]; rfl)
    clear q1 q3
    go_wp2
    go_ret
    exact ripe_is HR.out HW1.out
  by_cases hl : (lk : Int) < h
  · have HR := Lib.hid (show ripeOf t k c h = true by rw [HRIP.out, HOK.out, decide_eq_true (by omega), decide_eq_true hl]; rfl)
    go_wp2
    go_ret
    exact ripe_is HR.out HW1.out
  have HR := Lib.hid (show ripeOf t k c h = t.ins.all lastSeq by rw [HRIP.out, HOK.out, decide_eq_true (by omega), decide_eq_false hl]; rfl)
  go_wp2_with fail
  go_loopw [10] (fun i wr => wr = w1 ∧ ∃ j : Nat, j ≤ n ∧ i = .int .i64 j ∧ ∀ q x, q < j → t.ins[q]? = some x → lastSeq x = true) (fun i _ => n - (intOf i).toNat)
  case atStart => exact ⟨rfl, 0, Nat.zero_le _, rfl, fun q x hq => absurd hq (Nat.not_lt_zero _)⟩
  case round =>
    obtain ⟨rfl, j, hj, rfl, hsame⟩ := hrel
    have HS := Lib.hid hsame
    by_cases hjn : j < n
    · obtain ⟨b, o, x, wv, rfl, hx, hseq, -, -, -, -, -, d2, -⟩ := HI1.out.inp hjn
      cases hls : lastSeq x
      · have hne : ((x.seq : Int) != 4294967295) = true := by
          have : ¬ x.seq = 4294967295 := of_decide_eq_false hls
          rw [bne_iff_ne]; omega
        have hall : t.ins.all lastSeq = false := by
          cases h : t.ins.all lastSeq
          · rfl
          · rw [List.all_eq_true] at h
            have := h x (List.mem_of_getElem? hx)
            rw [hls] at this
            cases this
        have HA := Lib.hid hall
        clear hx hseq hsame hall hls
        generalize x.seq = sq at *
        go_wp2
        go_ret
        exact ripe_is (by rw [HR.out, HA.out]) HW1.out
      · have hne : ((x.seq : Int) != 4294967295) = false := by
          have : x.seq = 4294967295 := of_decide_eq_true hls
          rw [this]; rfl
        have hnext : ∀ q y, q < j + 1 → t.ins[q]? = some y → lastSeq y = true := fun q y hq hy => by
          rcases Nat.lt_or_ge q j with h | h
          · exact HS.out q y h hy
          · obtain rfl : q = j := by omega
            rw [hx] at hy
            obtain rfl : x = y := Option.some.inj hy
            exact hls
        have HN2 := Lib.hid hnext
        clear hx hseq hsame hnext hls
        generalize x.seq = sq at *
        go_wp2
        go_roundw
        case rel => exact ⟨by trivial, j + 1, by omega, by go_num, HN2.out⟩
        case measure => simp [intOf]; omega
    · obtain rfl : j = n := by omega
      have hall : t.ins.all lastSeq = true := by
        rw [List.all_eq_true]
        intro x hx
        obtain ⟨q, hq, rfl⟩ := List.getElem_of_mem hx
        exact hsame q _ (by rw [HN.out]; exact hq) (List.getElem?_eq_getElem hq)
      have HA := Lib.hid hall
      clear hsame hall
      go_wp2
      go_ret
      exact ripe_is (by rw [HR.out, HA.out]) HW1.out

end Go.Proofs.YtelindgnkpfkiaaGreatDoor
end

section
/-
  kedgeref11.Fee. Conditions: the coins and the transaction lie in memory.
-/
namespace Go.Proofs.YtelindgnkpfkiaaGreatDoor
open Go.RowKit Go.BigFrame
set_option linter.unusedVariables false
set_option linter.unusedSimpArgs false

/-- What the list has of a point. -/
def rgP (l : List PEn) (p : Pt) : PCn × Bool := match rfound l p with
  | some k => ((l[k]?.map enC).getD noCn, true)
  | none => (noCn, false)
theorem rgP_hit {l : List PEn} {p : Pt} {k : Nat} (h : rfound l p = some k) : ∃ y, l[k]? = some y ∧ y.pt = p ∧ rgP l p = (enC y, true) := by
  have h1 := h
  unfold rfound at h1
  rw [List.findIdx?_eq_some_iff_getElem] at h1
  obtain ⟨hk, h2, -⟩ := h1
  refine ⟨l[k], List.getElem?_eq_getElem hk, of_decide_eq_true h2, ?_⟩
  unfold rgP
  rw [h]
  simp [hk]
theorem rgP_miss {l : List PEn} {p : Pt} (h : rfound l p = none) : rgP l p = (noCn, false) := by unfold rgP; rw [h]
theorem base_first {t : PTx} {x : PIn} (hc : checkOf t = 0) (hx : t.ins[0]? = some x) : isBase x.id x.idx = baseOf t := by
  have hf : formedOf t = true := by
    unfold checkOf at hc
    split at hc
    · split at hc
      · exact absurd hc (by decide)
      · split at hc
        · assumption
        · exact absurd hc (by decide)
    · exact absurd hc (by decide)
  have hl : 0 < t.ins.length := (List.getElem?_eq_some_iff.1 hx).1
  by_cases h1 : t.ins.length = 1
  · exact (baseOf_one h1 hx).symm
  · have h2 : isBase x.id x.idx = false := by
      unfold formedOf at hf
      have := List.all_eq_true.1 hf x (List.mem_of_getElem? hx)
      unfold formIn at this
      rw [decide_eq_true (show 1 < t.ins.length by omega), Bool.and_true] at this
      simp only [Bool.and_eq_true, Bool.not_eq_true'] at this
      exact this.2
    have h3 : baseOf t = false := by
      unfold baseOf
      split
      · rename_i y hy
        rw [hy] at h1
        exact absurd rfl h1
      · rfl
    rw [h2, h3]
theorem check_ins {t : PTx} (hc : checkOf t = 0) : 0 < t.ins.length := by
  unfold checkOf at hc
  split at hc
  · rename_i h
    unfold countsOf at h
    simp only [Bool.and_eq_true, decide_eq_true_eq] at h
    omega
  · exact absurd hc (by decide)
theorem rgP_val {l : List PEn} (h : ∀ y ∈ l, goodA y.val = true) (p : Pt) : 0 ≤ (rgP l p).1.val ∧ (rgP l p).1.val ≤ 2100000000000000 := by
  cases hf : rfound l p with
  | some k =>
    obtain ⟨y, hy, -, hr⟩ := rgP_hit hf
    rw [hr]
    exact (goodA_iff _).1 (h y (List.mem_of_getElem? hy))
  | none =>
    rw [rgP_miss hf]
    decide
def RFeeIs (z : Int × PEr) (w : World) (e : Ending) (w' : World) : Prop := e = .returned (.tuple #[.int .i64 z.1, .int .i64 z.2.code, .int .i64 z.2.place]) ∧ Below w.heap.size w w'
theorem feeE_base {g : Pt → PCn × Bool} {t : PTx} {h : Int} (hc : checkOf t = 0) (hb : baseOf t = true) : feeE g t h = (0, .num 4) := by
  have hf : formE t = 4 := by unfold formE; rw [if_neg (by simp [hc]), if_pos hb]
  rw [feeE_form (by rw [hf]; decide), hf]
theorem form_ok {t : PTx} (hc : checkOf t = 0) (hb : baseOf t = false) : formE t = 0 := by
  unfold formE
  rw [if_neg (by simp [hc]), if_neg (by simp [hb])]
theorem form_check {t : PTx} (hc : checkOf t ≠ 0) : formE t = checkOf t := by unfold formE; rw [if_pos hc]
set_option maxRecDepth 100000 in
set_option maxHeartbeats 8000000 in
theorem rkfee_any (vl : Value) (le : List PEn) (v : Value) (t : PTx) (ht : Int) (w : World) (hl : SlAt rpEn w vl le) (hge : ∀ y ∈ le, goodA y.val = true) (hse : ∀ y ∈ le, y.script.size ≤ 9223372036854775807) (hh : ht ≤ 9223372036854775807) (hv : TxAt w v t) (hlen : t.outs.length ≤ 1000) (hins : t.ins.length ≤ 1000) :
    Calls Tryz.prog 17 #[vl, v, .int .i64 ht] w (RFeeIs (feeE (rgP le) t ht) w) := by
  have HTX := Lib.hid hv
  have HL := Lib.hid hl
  have HGE := Lib.hid hge
  have HSE := Lib.hid hse
  obtain ⟨va, vo, rfl, hia, hoa, -, -⟩ := hv
  obtain ⟨aa, ca, rfl, -, -⟩ := hia.shape
  obtain ⟨ao, co, rfl, -, -⟩ := hoa.shape
  obtain ⟨al, cl, rfl, hcl1, hcl2⟩ := hl.shape
  have HIA := Lib.hid hia
  obtain ⟨z, hz⟩ : ∃ z, z = feeE (rgP le) t ht := ⟨_, rfl⟩
  rw [← hz]
  have HZ := Lib.hid hz
  have HCK := Lib.hid (fun y h => rcheck_any (.agg #[.int .u32 t.ver, .slice aa t.ins.length ca, .slice ao t.outs.length co, .int .u32 t.lock]) t y h hlen)
  have HTT := Lib.hid (fun y h => rtotal_any (.agg #[.int .u32 t.ver, .slice aa t.ins.length ca, .slice ao t.outs.length co, .int .u32 t.lock]) t y h hlen)
  have HOP := Lib.hid (fun s (hs : s.size ≤ 9223372036854775807) (k : Nat) y h => ropen_any s hs (.agg #[.int .u32 t.ver, .slice aa t.ins.length ca, .slice ao t.outs.length co, .int .u32 t.lock]) t k y h)
  have HRI := Lib.hid (fun (k : Nat) c y h => rripe_any (.agg #[.int .u32 t.ver, .slice aa t.ins.length ca, .slice ao t.outs.length co, .int .u32 t.lock]) t k c ht y h hh)
  have HFD := Lib.hid (fun p y (h : SlAt rpEn y (.slice al le.length cl) le) (hp : p.2 < 4294967296) => r10find_any (.slice al le.length cl) le p y h hp)
  obtain ⟨n, hn⟩ : ∃ n, n = t.ins.length := ⟨_, rfl⟩
  obtain ⟨nl, hnl⟩ : ∃ n, n = le.length := ⟨_, rfl⟩
  have HN := Lib.hid hn
  have HNL := Lib.hid hnl
  rw [← hn] at HTX HIA HCK HTT HOP HRI hins ⊢
  rw [← hnl] at HL HFD hcl1 ⊢
  generalize t.outs.length = k2 at *
  rw [maxLen_eq] at hcl2
  clear hia hoa hz hn hl hge hse hnl
  go_enter Tryz.func17, Tryz.ntmps17
  go_upto_region 1 with fail
  have hz := heap_alloc_new w (.cells #[.int .u32 t.ver, .slice aa n ca, .slice ao k2 co, .int .u32 t.lock] 35)
  have hal : Below w.heap.size w (w.alloc (.cells #[.int .u32 t.ver, .slice aa n ca, .slice ao k2 co, .int .u32 t.lock] 35)) := (Below.refl _ _).alloc (Nat.le_refl _) _
  obtain ⟨X, hX⟩ : ∃ q, q = w.heap.size := ⟨_, rfl⟩
  rw [← hX] at hz ⊢
  generalize w.alloc (.cells #[.int .u32 t.ver, .slice aa n ca, .slice ao k2 co, .int .u32 t.lock] 35) = w0 at *
  have HB0 := Lib.hid hal
  have HZ0 := Lib.hid hz
  have HTX0 := Lib.hid (HTX.out.below hal)
  have HL0 := Lib.hid (HL.out.below hal)
  have t0 : w0.cell? ⟨X, 0, none⟩ = some (.int .u32 t.ver) := cell_at hz
  have t1 : w0.cell? ⟨X, 1, none⟩ = some (.slice aa n ca) := cell_at hz
  have t2 : w0.cell? ⟨X, 2, none⟩ = some (.slice ao k2 co) := cell_at hz
  have t3 : w0.cell? ⟨X, 3, none⟩ = some (.int .u32 t.lock) := cell_at hz
  have HK := Lib.hid (HCK.out w0 HTX0.out)
  clear hz hal hX
  go_wp2_with fail
  refine HK.out.mono ?_
  rintro e w1 ⟨rfl, hb⟩
  have HB1 := Lib.hid (HB0.out.trans (hb.mono HB0.out.size))
  have HTX1 := Lib.hid (HTX0.out.below hb)
  have HL1 := Lib.hid (HL0.out.below hb)
  have HIA1 := Lib.hid (HIA.out.below HB1.out)
  have HZ0 := Lib.hid (stay HZ0.out hb)
  replace t0 := below_cells hb _ _ t0
  replace t1 := below_cells hb _ _ t1
  replace t2 := below_cells hb _ _ t2
  replace t3 := below_cells hb _ _ t3
  clear hb HK
  by_cases hc : checkOf t = 0
  · rw [hc]
    have HC := Lib.hid hc
    have hn0 := check_ins hc
    rw [← HN.out] at hn0
    obtain ⟨bi, oi, x0, wv, rfl, hx0, -, hidx, hid, -, c0, c1, -, -⟩ := HIA1.out.inp hn0
    have hbf := base_first hc hx0
    have HBA := Lib.hid (fun y => rbase_any x0.id x0.idx hidx hid y)
    rw [hbf] at HBA
    rw [show oi + 0 * 4 = oi by omega] at c0 c1
    have HN0 := Lib.hid hn0
    clear hc hx0 hbf
    go_wp2_with fail
    refine (HBA.out w1).mono ?_
    rintro e w2 ⟨rfl, hb⟩
    have HB2 := Lib.hid (HB1.out.trans (hb.mono HB1.out.size))
    have HTX2 := Lib.hid (HTX1.out.below hb)
    have HL2 := Lib.hid (HL1.out.below hb)
    have HIA2 := Lib.hid (HIA1.out.below hb)
    have HZ0 := Lib.hid (stay HZ0.out hb)
    clear hb c0 c1 t0 t1 t2 t3 HBA
    by_cases hbs : baseOf t = true
    · rw [hbs]
      have HFE := Lib.hid (HZ.out.trans (feeE_base HC.out hbs))
      clear hbs
      go_wp2_with fail
      refine bodyPost_ret (v := .tuple #[.int .i64 0, .int .i64 4, .int .i64 (-1)]) (by simp [results, Tryz.results17, go_sem]) rfl ?_
      unfold RFeeIs
      rw [HFE.out]
      exact ⟨rfl, HB2.out⟩
    · have hbf : baseOf t = false := by simpa using hbs
      have HF := Lib.hid (form_ok HC.out hbf)
      rw [hbf]
      clear hbs hbf
      have t1 : w2.cell? ⟨X, 1, none⟩ = some (.slice (some ⟨bi, oi, none⟩) n ca) := cell_at HZ0.out
      go_wp2_with fail
      go_loopg [11, 12] n (fun g r i wr => ∃ (k : Nat) (r0 : Value), r = r0 ∧ g = n - k ∧ k ≤ n ∧ i = .int .i64 k ∧ Below w2.heap.size w2 wr ∧ wr.ownsRow w2.heap.size 3 1 r0 k (intCells (valsG (rgP le) (t.ins.take k))) ∧ ∀ j y, j < k → t.ins[j]? = some y → (spentR (rgP le (y.id, y.idx)) t j ht).2 = 0)
      case atStart => exact ⟨0, _, rfl, rfl, by omega, rfl, Below.refl _ _, World.ownsRow_nil w2 _ _ _, fun j y h => absurd h (by omega)⟩
      case round =>
        rename World => wo
        obtain ⟨k, r0, hr0, hgk, hk, rfl, hb, hown, hall⟩ := hrel
        obtain rfl := hr0.symm
        have HGK := Lib.hid hgk
        have HB := Lib.hid hb
        have HOWN := Lib.hid hown
        have HALL := Lib.hid hall
        have hz := stay HZ0.out hb
        have HZO := Lib.hid hz
        have t0 : wo.cell? ⟨X, 0, none⟩ = some (.int .u32 t.ver) := cell_at hz
        have t1 : wo.cell? ⟨X, 1, none⟩ = some (.slice (some ⟨bi, oi, none⟩) n ca) := cell_at hz
        have t2 : wo.cell? ⟨X, 2, none⟩ = some (.slice ao k2 co) := cell_at hz
        have t3 : wo.cell? ⟨X, 3, none⟩ = some (.int .u32 t.lock) := cell_at hz
        clear hgk hb hown hall hz
        by_cases hlt : k < n
        · obtain ⟨bi', oi', x, wv', hbo, hx, -, hxi, -, -, y0, y1, -, -⟩ := (HIA2.out.below HB.out).inp hlt
          obtain ⟨rfl, rfl⟩ : bi = bi' ∧ oi = oi' := by simpa using hbo
          have HX := Lib.hid hx
          have HQ := Lib.hid (HFD.out (x.id, x.idx) wo (HL2.out.below HB.out) hxi)
          unfold IdxP at HQ
          dsimp only at HQ
          obtain ⟨fo, hfo⟩ : ∃ q, q = rfound le (x.id, x.idx) := ⟨_, rfl⟩
          have hfo2 : (le.findIdx? fun y => decide (y.pt = (x.id, x.idx))) = fo := hfo.symm
          rw [hfo2] at HQ
          obtain ⟨sr, hsr⟩ : ∃ q, q = spentR (rgP le (x.id, x.idx)) t k ht := ⟨_, rfl⟩
          have HSR := Lib.hid hsr
          have HSR0 := Lib.hid hsr
          have HFO := Lib.hid hfo
          clear hx hsr hfo hfo2 hbo
          go_wp2_with fail
          refine HQ.out.mono ?_
          rintro e w3 ⟨rfl, hb⟩
          have HB3 := Lib.hid (HB.out.trans (hb.mono HB.out.size))
          have HO3 := Lib.hid (ownsRow_below HOWN.out hb)
          have HZ3 := Lib.hid (stay HZO.out hb)
          replace t0 := below_cells hb _ _ t0
          replace t1 := below_cells hb _ _ t1
          replace t2 := below_cells hb _ _ t2
          replace t3 := below_cells hb _ _ t3
          clear hb HQ y0 y1
          cases fo with
          | none =>
            have hsp : sr = (noCn, 8) := by
              rw [HSR.out, rgP_miss HFO.out.symm]
              unfold spentR
              rw [if_pos rfl]
            have HFE := Lib.hid (HZ.out.trans (feeE_fault (g := rgP le) HF.out HX.out HALL.out (by rw [← HSR.out, hsp]; show (8 : Int) ≠ 0; decide)))
            rw [← HSR.out, hsp] at HFE
            clear hsp
            unfold idxV
            dsimp only
            go_wp2_with fail
            refine bodyPost_ret (v := .tuple #[.int .i64 0, .int .i64 8, .int .i64 k]) (by simp [results, Tryz.results17, go_sem]) rfl ?_
            unfold RFeeIs
            rw [HFE.out]
            exact ⟨rfl, HB2.out.trans (HB3.out.mono HB2.out.size)⟩
          | some q =>
            obtain ⟨ye, hye, -, hrg⟩ := rgP_hit HFO.out.symm
            have hq : q < nl := by rw [HNL.out]; exact (List.getElem?_eq_some_iff.1 hye).1
            obtain ⟨bl, ol, y', rfl, hy', hyo, -, -, e2, e3, e4⟩ := ((HL2.out.below HB3.out)).en hq
            rw [hye] at hy'
            obtain rfl := Option.some.inj hy'
            have HRG := Lib.hid hrg
            have HSZ := Lib.hid (HSE.out ye (List.mem_of_getElem? hye))
            have HGV := Lib.hid (HGE.out ye (List.mem_of_getElem? hye))
            unfold idxV
            dsimp only
            have hqn : decide ((q : Int) < 0) = false := decide_eq_false (by omega)
            clear hye hy' hyo hrg
            go_upto_region 15 with fail
            have hz := heap_alloc_new w3 (.cells #[.int .i64 ye.val, .string ye.script, .int .i64 ye.ht] 50)
            have hal : Below w3.heap.size w3 (w3.alloc (.cells #[.int .i64 ye.val, .string ye.script, .int .i64 ye.ht] 50)) := (Below.refl _ _).alloc (Nat.le_refl _) _
            obtain ⟨C, hC⟩ : ∃ q, q = w3.heap.size := ⟨_, rfl⟩
            rw [← hC] at hz ⊢
            generalize w3.alloc (.cells #[.int .i64 ye.val, .string ye.script, .int .i64 ye.ht] 50) = w4 at *
            have HB4 := Lib.hid (HB3.out.trans (hal.mono HB3.out.size))
            have HO4 := Lib.hid (ownsRow_below HO3.out hal)
            have HZ4 := Lib.hid (stay HZ3.out hal)
            have HCZ := Lib.hid hz
            have g1 : w4.cell? ⟨C, 1, none⟩ = some (.string ye.script) := cell_at hz
            replace t0 := below_cells hal _ _ t0
            replace t1 := below_cells hal _ _ t1
            replace t2 := below_cells hal _ _ t2
            replace t3 := below_cells hal _ _ t3
            have HQO := Lib.hid (HOP.out ye.script HSZ.out k w4 (HTX2.out.below HB4.out))
            unfold OpenIs at HQO
            have HSR := Lib.hid (show sr = if openOf ye.script t k ≠ 0 then (enC ye, openOf ye.script t k) else if ripeOf t k ye.ht ht = false then (enC ye, 10) else (enC ye, 0) by
              rw [HSR.out, HRG.out]
              unfold spentR
              rw [if_neg (by simp)]
              rfl)
            clear hz hal hC e2 e3 e4
            go_wp2_with fail
            refine HQO.out.mono ?_
            rintro e w5 ⟨rfl, hb⟩
            have HB5 := Lib.hid (HB4.out.trans (hb.mono HB4.out.size))
            have HO5 := Lib.hid (ownsRow_below HO4.out hb)
            have HCZ := Lib.hid (stay HCZ.out hb)
            replace t0 := below_cells hb _ _ t0
            replace t1 := below_cells hb _ _ t1
            replace t2 := below_cells hb _ _ t2
            replace t3 := below_cells hb _ _ t3
            clear hb HQO g1
            obtain ⟨oc, hoc⟩ : ∃ q, q = openOf ye.script t k := ⟨_, rfl⟩
            rw [← hoc] at HSR ⊢
            clear hoc
            by_cases ho : oc = 0
            · subst ho
              have HSR := Lib.hid (HSR.out.trans (if_neg (by simp)))
              have HQR := Lib.hid (HRI.out k ye.ht w5 (HTX2.out.below HB5.out))
              unfold RipeIs at HQR
              have g2 : w5.cell? ⟨C, 2, none⟩ = some (.int .i64 ye.ht) := cell_at HCZ.out
              go_wp2_with fail
              refine HQR.out.mono ?_
              rintro e w6 ⟨rfl, hb⟩
              have HB6 := Lib.hid (HB5.out.trans (hb.mono HB5.out.size))
              have HO6 := Lib.hid (ownsRow_below HO5.out hb)
              have HCZ := Lib.hid (stay HCZ.out hb)
              clear hb HQR g2 t0 t1 t2 t3
              obtain ⟨rp, hrp⟩ : ∃ q, q = ripeOf t k ye.ht ht := ⟨_, rfl⟩
              rw [← hrp] at HSR ⊢
              clear hrp
              cases rp
              · have HSR := Lib.hid (HSR.out.trans (if_pos rfl))
                have HFE := Lib.hid (HZ.out.trans (feeE_fault (g := rgP le) HF.out HX.out HALL.out (by rw [← HSR0.out, HSR.out]; show (10 : Int) ≠ 0; decide)))
                rw [← HSR0.out, HSR.out] at HFE
                go_wp2_with fail
                refine bodyPost_ret (v := .tuple #[.int .i64 0, .int .i64 10, .int .i64 k]) (by simp [results, Tryz.results17, go_sem]) rfl ?_
                unfold RFeeIs
                rw [HFE.out]
                exact ⟨rfl, HB2.out.trans (HB6.out.mono HB2.out.size)⟩
              · have HSR := Lib.hid (HSR.out.trans (if_neg (by simp)))
                have HALL2 := Lib.hid (show ∀ j y, j < k + 1 → t.ins[j]? = some y → (spentR (rgP le (y.id, y.idx)) t j ht).2 = 0 from fun j y hj hy => by
                  by_cases hjk : j = k
                  · rw [hjk] at hy ⊢
                    rw [HX.out] at hy
                    obtain rfl := Option.some.inj hy
                    rw [← HSR0.out, HSR.out]
                  · exact HALL.out j y (by omega) hy)
                have HVS := Lib.hid (show valsG (rgP le) (t.ins.take (k + 1)) = valsG (rgP le) (t.ins.take k) ++ [ye.val] by
                  rw [List.take_add_one, HX.out]
                  unfold valsG
                  rw [List.map_append]
                  simp only [Option.toList_some, List.map_cons, List.map_nil]
                  rw [HRG.out]
                  rfl)
                have g0 : w6.cell? ⟨C, 0, none⟩ = some (.int .i64 ye.val) := cell_at HCZ.out
                obtain ⟨a6, c6, rfl, -, -⟩ := ownsRow_shape HO6.out
                obtain ⟨i0, hi, hz0, hz1, hz2⟩ := info_parts info_int
                obtain ⟨a3, c3, w7, hrun, hown3, hb3, -⟩ := append_el (P := Tryz.prog) Tryz.underlying62 hi hz0 hz1 hz2 rfl HO6.out #[.int .i64 ye.val] rfl (by simp [Value.oneCell']) (by rw [maxLen_eq]; omega) (by omega) (by have := HB6.out.size; omega) (ty := 62)
                have HR := Lib.hid hrun
                have HO7 := Lib.hid hown3
                have HB7 := Lib.hid (HB6.out.trans hb3)
                clear hi hz0 hz1 hz2 hrun hown3 hb3
                go_wp2_with (at_builtin; refine wpList_append_run rfl (.tmp 74) (.tmp 78) 62 62 rfl rfl rfl HR.out ?_)
                go_roundg (n - (k + 1))
                case measure => have := HGK.out; omega
                case rel =>
                  refine ⟨k + 1, _, rfl, rfl, by omega, by go_num, HB7.out, ?_, HALL2.out⟩
                  rw [HVS.out]
                  have := HO7.out
                  simpa [intCells] using this
            · have HSR := Lib.hid (HSR.out.trans (if_pos ho))
              have HFE := Lib.hid (HZ.out.trans (feeE_fault (g := rgP le) HF.out HX.out HALL.out (by rw [← HSR0.out, HSR.out]; exact ho)))
              rw [← HSR0.out, HSR.out] at HFE
              have hne : (oc != 0) = true := by rw [bne_iff_ne]; exact ho
              clear ho
              go_wp2_with fail
              refine bodyPost_ret (v := .tuple #[.int .i64 0, .int .i64 oc, .int .i64 k]) (by simp [results, Tryz.results17, go_sem]) rfl ?_
              unfold RFeeIs
              rw [HFE.out]
              exact ⟨rfl, HB2.out.trans (HB5.out.mono HB2.out.size)⟩
        · obtain rfl : k = n := by omega
          have htk : (t.ins.take k) = t.ins := List.take_of_length_le (by rw [HN.out]; exact Nat.le_refl _)
          have hsl : SlAt (rpInt .i64) wo r0 (valsG (rgP le) t.ins) := SlAt.of_ints (by have := HOWN.out; rw [htk] at this; exact this) (by unfold valsG; rw [List.length_map, HN.out]) (fun x hx => by
            obtain ⟨y, -, rfl⟩ := List.mem_map.1 hx
            exact wf_of (by have := rgP_val HGE.out (y.id, y.idx); omega))
          have HS := Lib.hid hsl
          have hfs := feeE_sum (g := rgP le) (h := ht) HF.out (fun j y hy => HALL.out j y (by rw [HN.out]; exact (List.getElem?_eq_some_iff.1 hy).1) hy)
          have HFS := Lib.hid (HZ.out.trans hfs)
          have HAS := Lib.hid (rasum_any _ _ wo HS.out)
          unfold SumAIs at HAS
          have hgo := (goodA_iff _).1 (form_outs HF.out)
          have hgs := sumA_goodK (valsG (rgP le) t.ins) 0 (by decide)
          obtain ⟨s1, hs1⟩ : ∃ q, q = sumA 0 (valsG (rgP le) t.ins) := ⟨_, rfl⟩
          obtain ⟨s2, hs2⟩ : ∃ q, q = sumA 0 (t.outs.map (·.val)) := ⟨_, rfl⟩
          unfold TotIs at HTT
          rw [← hs1] at HFS HAS hgs
          rw [← hs2] at HFS HTT hgo
          have HGO := Lib.hid hgo
          have HGS := Lib.hid hgs
          have HT2 := Lib.hid (HTT.out wo (HTX2.out.below HB.out))
          obtain ⟨a6, c6, rfl, -, -⟩ := ownsRow_shape HOWN.out
          clear hsl htk hfs hgo hgs hs1 hs2
          go_wp2_with fail
          refine HAS.out.mono ?_
          rintro e w3 ⟨rfl, rfl⟩
          by_cases he : s1.2 = 0
          · rw [he]
            have HE := Lib.hid he
            have HFS := Lib.hid (HFS.out.trans (if_neg (by simp [he])))
            clear he
            go_wp2_with fail
            refine HT2.out.mono ?_
            rintro e w4 ⟨rfl, hb⟩
            have HB4 := Lib.hid (HB2.out.trans ((HB.out.trans (hb.mono HB.out.size)).mono HB2.out.size))
            clear hb t0 t1 t2 t3
            by_cases hlt2 : s1.1 < s2.1
            · have HFS := Lib.hid (HFS.out.trans (if_pos hlt2))
              go_wp2_with fail
              refine bodyPost_ret (v := .tuple #[.int .i64 0, .int .i64 12, .int .i64 (-1)]) (by simp [results, Tryz.results17, go_sem]) rfl ?_
              unfold RFeeIs
              rw [HFS.out]
              exact ⟨rfl, HB4.out⟩
            · have HFS := Lib.hid (HFS.out.trans (if_neg hlt2))
              have h1 := (goodA_iff _).1 (HGS.out HE.out)
              have h2 := HGO.out
              have hws : IntKind.i64.wrap (s1.1 - s2.1) = s1.1 - s2.1 := by rw [IntKind.wrap_i64]; omega
              clear h1 h2
              go_wp2_with fail
              refine bodyPost_ret (v := .tuple #[.int .i64 (s1.1 - s2.1), .int .i64 0, .int .i64 (-1)]) (by simp [results, Tryz.results17, go_sem]) rfl ?_
              unfold RFeeIs
              rw [HFS.out]
              exact ⟨rfl, HB4.out⟩
          · have hne : (s1.2 != 0) = true := by rw [bne_iff_ne]; exact he
            have HFS := Lib.hid (HFS.out.trans (if_pos he))
            clear he
            go_wp2_with fail
            refine bodyPost_ret (v := .tuple #[.int .i64 0, .int .i64 s1.2, .int .i64 (-1)]) (by simp [results, Tryz.results17, go_sem]) rfl ?_
            unfold RFeeIs
            rw [HFS.out]
            exact ⟨rfl, HB2.out.trans (HB.out.mono HB2.out.size)⟩
  · have hne : (checkOf t != 0) = true := by rw [bne_iff_ne]; exact hc
    have hfo := form_check hc
    have HFE := Lib.hid (HZ.out.trans (feeE_form (by rw [hfo]; exact hc)))
    rw [hfo] at HFE
    generalize checkOf t = fe at *
    clear hc hfo
    go_wp2_with fail
    refine bodyPost_ret (v := .tuple #[.int .i64 0, .int .i64 fe, .int .i64 (-1)]) (by simp [results, Tryz.results17, go_sem]) rfl ?_
    unfold RFeeIs
    rw [HFE.out]
    exact ⟨rfl, HB1.out⟩
end Go.Proofs.YtelindgnkpfkiaaGreatDoor
end

section
/-
  The law's coins, as a set and as a list: held. Conditions: the job lies in memory.
-/
namespace Go.Proofs.YtelindgnkpfkiaaGreatDoor
open Go.RowKit Go.BigFrame
set_option linter.unusedVariables false
set_option linter.unusedSimpArgs false

/-! ### a set and a list that have the same -/
def AgrC (lc : CL) (le : List PEn) : Prop := (lc.map fun e => (e.1, e.2.1)).Perm (le.map fun y => (y.pt, enC y))
theorem lkP_of {α : Type} {e : Pt × α × Nat} : ∀ (l : List (Pt × α × Nat)) (i : Nat), e ∈ l → (l.map (·.1)).Nodup → ∃ j, lkP e.1 i l = some (j, e.2.1)
  | [], i, h, _ => by simp at h
  | x :: r, i, h, hn => by
    rw [List.map_cons, List.nodup_cons] at hn
    unfold lkP
    by_cases hp : e.1 = x.1
    · rw [if_pos hp]
      rcases List.mem_cons.1 h with rfl | h
      · exact ⟨i, rfl⟩
      · exact absurd (List.mem_map.2 ⟨e, h, hp⟩) hn.1
    · rw [if_neg hp]
      rcases List.mem_cons.1 h with rfl | h
      · exact absurd rfl hp
      · exact lkP_of r (i + 1) h hn.2
theorem lkP_not {α : Type} {p : Pt} : ∀ (l : List (Pt × α × Nat)) (i : Nat), p ∉ l.map (·.1) → lkP p i l = none
  | [], i, _ => rfl
  | x :: r, i, h => by
    rw [List.map_cons, List.mem_cons, not_or] at h
    unfold lkP
    rw [if_neg h.1]
    exact lkP_not r (i + 1) h.2
theorem agr_get {lc : CL} {c : Nat} {le : List PEn} (hw : PWf lc c) (h : AgrC lc le) (p : Pt) : getP noCn p lc = rgP le p := by
  cases hf : rfound le p with
  | some k =>
    obtain ⟨y, hy, hp, hr⟩ := rgP_hit hf
    rw [hr]
    have hm : (p, enC y) ∈ lc.map fun e => (e.1, e.2.1) := h.mem_iff.2 (List.mem_map.2 ⟨y, List.mem_of_getElem? hy, by rw [hp]⟩)
    obtain ⟨e, he, hpe⟩ := List.mem_map.1 hm
    obtain ⟨j, hj⟩ := lkP_of lc 0 he hw.keys
    have h1 : e.1 = p := congrArg Prod.fst hpe
    have h2 : e.2.1 = enC y := congrArg Prod.snd hpe
    unfold getP
    rw [← h1, hj, h2]
  | none =>
    rw [rgP_miss hf]
    have hn : p ∉ lc.map (·.1) := fun hm => by
      obtain ⟨e, he, rfl⟩ := List.mem_map.1 hm
      have := h.mem_iff.1 (List.mem_map.2 ⟨e, he, rfl⟩)
      obtain ⟨y, hy, hye⟩ := List.mem_map.1 this
      unfold rfound at hf
      rw [List.findIdx?_eq_none_iff] at hf
      have := hf y hy
      exact (of_decide_eq_false this) (congrArg Prod.fst hye)
    unfold getP
    rw [lkP_not lc 0 hn]
theorem perm_sumI {l l' : List Int} (h : l.Perm l') : l.sum = l'.sum := by
  induction h with
  | nil => rfl
  | cons x _ ih => rw [List.sum_cons, List.sum_cons, ih]
  | swap x y l => simp only [List.sum_cons]; omega
  | trans _ _ ih1 ih2 => exact ih1.trans ih2
theorem agr_sum {lc : CL} {le : List PEn} (h : AgrC lc le) : (lc.map (·.2.1.val)).sum = totR le := by
  have := perm_sumI (h.map fun q => q.2.val)
  rw [List.map_map, List.map_map] at this
  exact this
theorem agr_len {lc : CL} {le : List PEn} (h : AgrC lc le) : lc.length = le.length := by
  have := h.length_eq
  simpa using this
theorem agr_good {lc : CL} {le : List PEn} {tot : Int} (h : AgrC lc le) (hc : CWf lc tot) : ∀ y ∈ le, goodA y.val = true := fun y hy => by
  have := h.mem_iff.2 (List.mem_map.2 ⟨y, hy, rfl⟩)
  obtain ⟨e, he, hye⟩ := List.mem_map.1 this
  have := hc.good e he
  have h2 : e.2.1 = enC y := congrArg Prod.snd hye
  rw [h2] at this
  exact this
theorem rfound_get {le : List PEn} {p : Pt} : (rfound le p).isSome = (rgP le p).2 := by
  cases hf : rfound le p with
  | some k => obtain ⟨y, -, -, hr⟩ := rgP_hit hf; rw [hr]; rfl
  | none => rw [rgP_miss hf]; rfl
theorem agr_put {lc : CL} {c : Nat} {le : List PEn} {tot : Int} (hw : PWf lc c) (hc : CWf lc tot) (h : AgrC lc le) (y : PEn) : putE lc tot y.pt (enC y) = rputE le y := by
  unfold putE rputE
  rw [agr_get hw h, rfound_get, ← agr_sum h, hc.sum]
  split
  · rfl
  · rename_i hf
    split
    · rfl
    · have hg : goodA y.val = true := by
        have : formedC y.pt (enC y) = true := by simpa using hf
        unfold formedC at this
        simp only [Bool.and_eq_true] at this
        exact this.2.2.2
      unfold addA
      show (if goodA y.val && goodA (tot + y.val) then (tot + y.val, 0) else (0, 3)).2 = _
      rw [hg, Bool.true_and]
      cases goodA (tot + y.val) <;> rfl
theorem agr_snoc {lc : CL} {le : List PEn} (h : AgrC lc le) (y : PEn) (c : Nat) : AgrC (lc ++ [(y.pt, enC y, c)]) (rputL y le) := by
  unfold AgrC at *
  rw [List.map_append]
  have h1 := (rput_perm y le).map fun y => (y.pt, enC y)
  exact (List.perm_append_comm.trans (List.Perm.cons (y.pt, enC y) h)).trans h1.symm

/-! ### the law's data -/
structure PJc where
  id : Nat
  idx : Nat
  val : Int
  ht : Int
  br : List PBr
  script : ByteArray
  raw : Bool
structure PJc.Ok (x : PJc) : Prop where
  id : x.id < 256
  idx : x.idx < 256
  val : -9223372036854775808 ≤ x.val ∧ x.val ≤ 9223372036854775807
  ht : -9223372036854775808 ≤ x.ht ∧ x.ht ≤ 9223372036854775807
  script : x.script.size ≤ maxLen
def rpJc : Rp PJc := ⟨7, fun w cs x => ∃ v, cs = [.int .u8 x.id, .int .u8 x.idx, .int .i64 x.val, .int .i64 x.ht, v, .string x.script, .bool x.raw] ∧ SlAt rpBr w v x.br ∧ x.Ok, fun hw ⟨v, h1, h2, h3⟩ => ⟨v, h1, h2.mono hw, h3⟩⟩
theorem SlAt.jc {w : World} {a : Option Addr} {n c i : Nat} {xs : List PJc} (h : SlAt rpJc w (.slice a n c) xs) (hi : i < n) : ∃ (b o : Nat) (x : PJc) (v : Value), a = some ⟨b, o, none⟩ ∧ xs[i]? = some x ∧ x.Ok ∧ SlAt rpBr w v x.br ∧
    w.cell? ⟨b, o + i * 7, none⟩ = some (.int .u8 x.id) ∧ w.cell? ⟨b, o + i * 7 + 1, none⟩ = some (.int .u8 x.idx) ∧ w.cell? ⟨b, o + i * 7 + 2, none⟩ = some (.int .i64 x.val) ∧ w.cell? ⟨b, o + i * 7 + 3, none⟩ = some (.int .i64 x.ht) ∧
    w.cell? ⟨b, o + i * 7 + 4, none⟩ = some v ∧ w.cell? ⟨b, o + i * 7 + 5, none⟩ = some (.string x.script) ∧ w.cell? ⟨b, o + i * 7 + 6, none⟩ = some (.bool x.raw) := by
  obtain ⟨b, o, x, cs, h1, h2, h3, h4, v, h5, h6, h7⟩ := h.at hi
  subst h5
  exact ⟨b, o, x, v, h1, h2, h7, h6, h4 0 _ rfl, h4 1 _ rfl, h4 2 _ rfl, h4 3 _ rfl, h4 4 _ rfl, h4 5 _ rfl, h4 6 _ rfl⟩
/-- The set and the list lie in memory, and have the same. -/
structure HeldS (B S : Nat) (w : World) (b m : Nat) (v : Value) (lc : CL) (c : Nat) (tot : Int) (le : List PEn) : Prop where
  set : CsAt B w b m lc c tot
  own : EnsOwn S w v le
  bS : b < S
  mS : m < S
  agr : AgrC lc le
  ids : ∀ y ∈ le, ∃ k : Nat, k < 5 ∧ y.id = idB k
def RG6 (C : Nat) (x : PJc) (ri rj : Nat) : Prop → Nat → SFact
  | _, 0 => .val fun _ => .pointer (some ⟨C, 0, none⟩)
  | _, 1 => .val fun _ => .int .u8 x.id
  | _, 2 => .val fun _ => .int .u8 ri
  | _, 3 => .val fun _ => .int .i64 ri
  | _, 4 => .val fun _ => .string (idB ri)
  | _, 5 => .val fun _ => .pointer (some ⟨C, 1, none⟩)
  | _, 6 => .val fun _ => .int .u8 x.idx
  | _, 7 => .val fun _ => .int .u8 rj
  | _, 8 => .val fun _ => .int .u32 rj
  | _, 9 => .val fun _ => .agg #[.string (idB ri), .int .u32 rj]
  | p, 10 => .made p (.cells #[.string ⟨#[]⟩, .int .u32 0] 46 (0, 0))
  | _, 11 => .stored 46
  | _, _ => .any
theorem lockPut_le (l : List PBr) : (lockPut l).1.length ≤ 25 := by
  unfold lockPut
  split
  · simp
  · split
    · simp
    · rename_i h _
      dsimp only
      rw [List.length_append, putBrs_len, leB_length]
      omega
def HeldIs (w : World) (e : Ending) (w' : World) : Prop := ∃ b m v lc c tot le S, e = .returned (.tuple #[.pointer (some ⟨b, 0, none⟩), v]) ∧ HeldS w.heap.size S w' b m v lc c tot le ∧ le.length ≤ 8 ∧ S ≤ w'.heap.size ∧ Below w.heap.size w w'
set_option maxRecDepth 100000 in
set_option maxHeartbeats 8000000 in
theorem held_any (vc vs vo : Value) (lj : List PJc) (ver lock : Nat) (ht : Int) (w : World) (hv : SlAt rpJc w vc lj) :
    Calls Tryz.prog 7 #[.agg #[vc, vs, vo, .int .u32 ver, .int .u32 lock, .int .i64 ht]] w (HeldIs w) := by
  have HSL := Lib.hid hv
  obtain ⟨aj, cj, rfl, hl1, hl2⟩ := hv.shape
  rw [maxLen_eq] at hl2
  obtain ⟨n, hn⟩ : ∃ n, n = lj.length := ⟨_, rfl⟩
  rw [← hn] at hl1 HSL ⊢
  obtain ⟨q, hq⟩ : ∃ q, q = min n 8 := ⟨_, rfl⟩
  have hqi : min (n : Int) 8 = (q : Int) := by omega
  have hqn : q ≤ n ∧ q ≤ 8 := by omega
  clear hv hq hn
  go_enter Tryz.func7, Tryz.ntmps7
  go_upto_region 1 with fail
  have hz := heap_alloc_new w (.cells #[.slice aj n cj, vs, vo, .int .u32 ver, .int .u32 lock, .int .i64 ht] 27)
  have hal : Below w.heap.size w (w.alloc (.cells #[.slice aj n cj, vs, vo, .int .u32 ver, .int .u32 lock, .int .i64 ht] 27)) := (Below.refl _ _).alloc (Nat.le_refl _) _
  obtain ⟨X, hX⟩ : ∃ q, q = w.heap.size := ⟨_, rfl⟩
  rw [← hX] at hz ⊢
  generalize w.alloc (.cells #[.slice aj n cj, vs, vo, .int .u32 ver, .int .u32 lock, .int .i64 ht] 27) = w0 at *
  have HB0 := Lib.hid hal
  have HZ0 := Lib.hid hz
  clear hz hal hX
  go_wp2_with fail
  refine (cnew_any w0).mono ?_
  rintro e w1 ⟨b, m, rfl, hcs, hb⟩
  have HB1 := Lib.hid (HB0.out.trans (hb.mono HB0.out.size))
  have hz := stay HZ0.out hb
  have c0 : w1.cell? ⟨X, 0, none⟩ = some (.slice aj n cj) := cell_at hz
  obtain ⟨S, hS⟩ : ∃ S, S = w1.heap.size := ⟨_, rfl⟩
  have hlt := hcs.lt
  have HSS := Lib.hid hS
  have HH := Lib.hid (show HeldS w.heap.size S w1 b m (.slice none 0 0) [] 0 0 [] from ⟨⟨hcs.box, hcs.map, hcs.wf, hcs.cwf, Nat.le_trans HB0.out.size hcs.blo, Nat.le_trans HB0.out.size hcs.mlo⟩, ensOwn_nil _ _, by omega, by omega, List.Perm.refl _, fun y hy => by simp at hy⟩)
  clear hcs hb hz hS hlt HZ0
  go_wp2_with fail
  go_loopg [5, 21] q (fun g r i wr => ∃ (k : Nat) (r0 : Value) (lc : CL) (c : Nat) (tot : Int) (le : List PEn), r = r0 ∧ g = q - k ∧ k ≤ q ∧ i = .int .i64 k ∧ Below w.heap.size w wr ∧ S ≤ wr.heap.size ∧ le.length ≤ k ∧ HeldS w.heap.size S wr b m r0 lc c tot le)
  case atStart => exact ⟨0, _, [], 0, 0, [], rfl, rfl, by omega, rfl, HB1.out, by rw [HSS.out]; exact Nat.le_refl _, Nat.le_refl _, HH.out⟩
  case round =>
    rename World => wo
    obtain ⟨k, r0, lc, c, tot, le, hr0, hgk, hk, rfl, hb, hsz, hll, hh⟩ := hrel
    obtain rfl := hr0.symm
    have HGK := Lib.hid hgk
    have HB := Lib.hid hb
    have HH := Lib.hid hh
    have HLL := Lib.hid hll
    clear hgk hb hh hll
    by_cases hlt : k < q
    · obtain ⟨bc, oc, x, bv, rfl, hx, hok, hbr, d0, d1, d2, d3, d4, d5, d6⟩ := (HSL.out.below HB.out).jc (i := k) (by omega)
      obtain ⟨ab, cb, rfl, hb1, hb2⟩ := hbr.shape
      rw [maxLen_eq] at hb2
      obtain ⟨nb, hnb⟩ : ∃ n, n = x.br.length := ⟨_, rfl⟩
      rw [← hnb] at hbr hb1 d4
      have HBR := Lib.hid hbr
      have HOK := Lib.hid hok
      obtain ⟨ri, hri⟩ : ∃ q, q = x.id % 5 := ⟨_, rfl⟩
      obtain ⟨rj, hrj⟩ : ∃ q, q = x.idx % 2 := ⟨_, rfl⟩
      have hm1 : ((x.id : Int)).tmod 5 = (ri : Int) := by rw [Int.tmod_eq_emod_of_nonneg (by omega), hri]; rfl
      have hm2 : ((x.idx : Int)).tmod 2 = (rj : Int) := by rw [Int.tmod_eq_emod_of_nonneg (by omega), hrj]; rfl
      have hri5 : ri < 5 := by omega
      have hrj2 : rj < 2 := by omega
      clear hx hok hnb hbr hri hrj
      go_upto_region 6 with fail
      have hz := heap_alloc_new wo (.cells #[.int .u8 x.id, .int .u8 x.idx, .int .i64 x.val, .int .i64 x.ht, .slice ab nb cb, .string x.script, .bool x.raw] 84)
      have hal : Below wo.heap.size wo (wo.alloc (.cells #[.int .u8 x.id, .int .u8 x.idx, .int .i64 x.val, .int .i64 x.ht, .slice ab nb cb, .string x.script, .bool x.raw] 84)) := (Below.refl _ _).alloc (Nat.le_refl _) _
      obtain ⟨C, hC⟩ : ∃ q, q = wo.heap.size := ⟨_, rfl⟩
      rw [← hC] at hz ⊢
      generalize wo.alloc (.cells #[.int .u8 x.id, .int .u8 x.idx, .int .i64 x.val, .int .i64 x.ht, .slice ab nb cb, .string x.script, .bool x.raw] 84) = wc at *
      have HBC := Lib.hid hal
      have HCZ := Lib.hid hz
      have c0 : wc.cell? ⟨C, 0, none⟩ = some (.int .u8 x.id) := cell_at hz
      have c1 : wc.cell? ⟨C, 1, none⟩ = some (.int .u8 x.idx) := cell_at hz
      have HM1 := Lib.hid hm1
      have HM2 := Lib.hid hm2
      have HW1 := Lib.hid (show IntKind.i64.wrap (ri : Int) = (ri : Int) by rw [IntKind.wrap_i64]; omega)
      have HW2 := Lib.hid (show IntKind.u32.wrap (rj : Int) = (rj : Int) by simp [IntKind.wrap, IntKind.bits, IntKind.signed]; omega)
      clear hz hal hC d0 d1 d2 d3 d4 d5 d6 hm1 hm2
      go_upto_region 6 with fail
      refine wp_region_stored (RG6 C x ri rj) 12 11 10 (by kernel_rfl) (by kernel_rfl) (by kernel_rfl) (by kernel_rfl) (by decide) (by kernel_rfl) (by decide) (by intro j hj v d lo hi w h; match j, hj, h with | 0, hj, h => exact h | 1, hj, h => exact h | 2, hj, h => exact h | 3, hj, h => exact h | 4, hj, h => exact h | 5, hj, h => exact h | 6, hj, h => exact h | 7, hj, h => exact h | 8, hj, h => exact h | 9, hj, h => exact h | 10, hj, h => exact absurd rfl hj | 11, hj, h => exact h | q + 12, hj, h => exact h) ?_ ?_
      · intro i o hi ho L xs lo hi' wr hmd hni hpre
        obtain ⟨x0, x1, x2, x3, x4, x5, x6, x7, x8, x9, x10, x11, rfl⟩ : ∃ x0 x1 x2 x3 x4 x5 x6 x7 x8 x9 x10 x11, xs = [x0, x1, x2, x3, x4, x5, x6, x7, x8, x9, x10, x11] := by match xs, hmd.len with | [x0, x1, x2, x3, x4, x5, x6, x7, x8, x9, x10, x11], _ => exact ⟨_, _, _, _, _, _, _, _, _, _, _, _, rfl⟩
        match i, ho with
        | 0, ho =>
          obtain rfl := Option.some.inj ho
          have kk := fun lx ox ax => sstep_pure (P := Tryz.prog) (R := RG6 C x ri rj) (s := 11) (l := lx) (w0 := wc) (L := L) (xs := [x0, x1, x2, x3, x4, x5, x6, x7, x8, x9, x10, x11]) (lo := lo) (hi := hi') (o := ox) (a := ax) (w := wr) (i := 0) (k := 10) (by decide) (.pointer (some ⟨C, 0, none⟩))
          refine kk _ _ _ ?_ ?_
          · kernel_rfl
          · exact rfl
        | 1, ho =>
          obtain rfl := Option.some.inj ho
          have h_0 : x0 = .pointer (some ⟨C, 0, none⟩) := hmd.rel 0 (hpre 0 (by kernel_rfl))
          subst h_0
          have t0 := below_cells hmd.bel _ _ c0
          have kk := fun lx ox ax => sstep_pure (P := Tryz.prog) (R := RG6 C x ri rj) (s := 11) (l := lx) (w0 := wc) (L := L) (xs := [(.pointer (some ⟨C, 0, none⟩)), x1, x2, x3, x4, x5, x6, x7, x8, x9, x10, x11]) (lo := lo) (hi := hi') (o := ox) (a := ax) (w := wr) (i := 1) (k := 10) (by decide) (.int .u8 x.id)
          refine kk _ _ _ ?_ ?_
          · simp [putAll, execOp, go_sem, t0]
          · exact rfl
        | 2, ho =>
          obtain rfl := Option.some.inj ho
          have h_1 : x1 = .int .u8 x.id := hmd.rel 1 (hpre 1 (by kernel_rfl))
          subst h_1
          have kk := fun lx ox ax => sstep_pure (P := Tryz.prog) (R := RG6 C x ri rj) (s := 11) (l := lx) (w0 := wc) (L := L) (xs := [x0, (.int .u8 x.id), x2, x3, x4, x5, x6, x7, x8, x9, x10, x11]) (lo := lo) (hi := hi') (o := ox) (a := ax) (w := wr) (i := 2) (k := 10) (by decide) (.int .u8 ri)
          refine kk _ _ _ ?_ ?_
          · simp [putAll, execOp, go_sem, HM1.out]
          · exact rfl
        | 3, ho =>
          obtain rfl := Option.some.inj ho
          have h_2 : x2 = .int .u8 ri := hmd.rel 2 (hpre 2 (by kernel_rfl))
          subst h_2
          have kk := fun lx ox ax => sstep_pure (P := Tryz.prog) (R := RG6 C x ri rj) (s := 11) (l := lx) (w0 := wc) (L := L) (xs := [x0, x1, (.int .u8 ri), x3, x4, x5, x6, x7, x8, x9, x10, x11]) (lo := lo) (hi := hi') (o := ox) (a := ax) (w := wr) (i := 3) (k := 10) (by decide) (.int .i64 ri)
          refine kk _ _ _ ?_ ?_
          · simp [putAll, execOp, go_sem, HW1.out]
          · exact rfl
        | 4, ho =>
          obtain rfl := Option.some.inj ho
          have h_3 : x3 = .int .i64 ri := hmd.rel 3 (hpre 3 (by kernel_rfl))
          subst h_3
          have kk := fun lx ox ax => sstep_call (P := Tryz.prog) (R := RG6 C x ri rj) (s := 11) (l := lx) (w0 := wc) (L := L) (xs := [x0, x1, x2, (.int .i64 ri), x4, x5, x6, x7, x8, x9, x10, x11]) (lo := lo) (hi := hi') (o := ox) (a := ax) (w := wr) (i := 4) (k := 10) (by decide) (id_any ri wr)
          refine kk _ _ _ ?_ ?_
          · kernel_rfl
          · exact fun e w' ⟨he, hb⟩ => ⟨_, he, hb, rfl⟩
        | 5, ho =>
          obtain rfl := Option.some.inj ho
          have kk := fun lx ox ax => sstep_pure (P := Tryz.prog) (R := RG6 C x ri rj) (s := 11) (l := lx) (w0 := wc) (L := L) (xs := [x0, x1, x2, x3, x4, x5, x6, x7, x8, x9, x10, x11]) (lo := lo) (hi := hi') (o := ox) (a := ax) (w := wr) (i := 5) (k := 10) (by decide) (.pointer (some ⟨C, 1, none⟩))
          refine kk _ _ _ ?_ ?_
          · kernel_rfl
          · exact rfl
        | 6, ho =>
          obtain rfl := Option.some.inj ho
          have h_5 : x5 = .pointer (some ⟨C, 1, none⟩) := hmd.rel 5 (hpre 5 (by kernel_rfl))
          subst h_5
          have t0 := below_cells hmd.bel _ _ c1
          have kk := fun lx ox ax => sstep_pure (P := Tryz.prog) (R := RG6 C x ri rj) (s := 11) (l := lx) (w0 := wc) (L := L) (xs := [x0, x1, x2, x3, x4, (.pointer (some ⟨C, 1, none⟩)), x6, x7, x8, x9, x10, x11]) (lo := lo) (hi := hi') (o := ox) (a := ax) (w := wr) (i := 6) (k := 10) (by decide) (.int .u8 x.idx)
          refine kk _ _ _ ?_ ?_
          · simp [putAll, execOp, go_sem, t0]
          · exact rfl
        | 7, ho =>
          obtain rfl := Option.some.inj ho
          have h_6 : x6 = .int .u8 x.idx := hmd.rel 6 (hpre 6 (by kernel_rfl))
          subst h_6
          have kk := fun lx ox ax => sstep_pure (P := Tryz.prog) (R := RG6 C x ri rj) (s := 11) (l := lx) (w0 := wc) (L := L) (xs := [x0, x1, x2, x3, x4, x5, (.int .u8 x.idx), x7, x8, x9, x10, x11]) (lo := lo) (hi := hi') (o := ox) (a := ax) (w := wr) (i := 7) (k := 10) (by decide) (.int .u8 rj)
          refine kk _ _ _ ?_ ?_
          · simp [putAll, execOp, go_sem, HM2.out]
          · exact rfl
        | 8, ho =>
          obtain rfl := Option.some.inj ho
          have h_7 : x7 = .int .u8 rj := hmd.rel 7 (hpre 7 (by kernel_rfl))
          subst h_7
          have kk := fun lx ox ax => sstep_pure (P := Tryz.prog) (R := RG6 C x ri rj) (s := 11) (l := lx) (w0 := wc) (L := L) (xs := [x0, x1, x2, x3, x4, x5, x6, (.int .u8 rj), x8, x9, x10, x11]) (lo := lo) (hi := hi') (o := ox) (a := ax) (w := wr) (i := 8) (k := 10) (by decide) (.int .u32 rj)
          refine kk _ _ _ ?_ ?_
          · simp [putAll, execOp, go_sem, HW2.out]
          · exact rfl
        | 9, ho =>
          obtain rfl := Option.some.inj ho
          have h_4 : x4 = .string (idB ri) := hmd.rel 4 (hpre 4 (by kernel_rfl))
          subst h_4
          have h_8 : x8 = .int .u32 rj := hmd.rel 8 (hpre 8 (by kernel_rfl))
          subst h_8
          have kk := fun lx ox ax => sstep_pure (P := Tryz.prog) (R := RG6 C x ri rj) (s := 11) (l := lx) (w0 := wc) (L := L) (xs := [x0, x1, x2, x3, (.string (idB ri)), x5, x6, x7, (.int .u32 rj), x9, x10, x11]) (lo := lo) (hi := hi') (o := ox) (a := ax) (w := wr) (i := 9) (k := 10) (by decide) (.agg #[.string (idB ri), .int .u32 rj])
          refine kk _ _ _ ?_ ?_
          · kernel_rfl
          · exact rfl
        | 10, ho =>
          obtain rfl := Option.some.inj ho
          have kk := fun lx ox ax => sstep_new (P := Tryz.prog) (R := RG6 C x ri rj) (s := 11) (l := lx) (w0 := wc) (L := L) (xs := [x0, x1, x2, x3, x4, x5, x6, x7, x8, x9, x10, x11]) (lo := lo) (hi := hi') (o := ox) (a := ax) (w := wr) (i := 10) (k := 10) (by decide) (.pointer (some ⟨wr.heap.size, 0, none⟩)) (.cells #[.string ⟨#[]⟩, .int .u32 0] 46)
          refine kk _ _ _ ?_ ?_
          · kernel_rfl
          · exact ⟨_, Nat.le_refl _, rfl, fun _ => ⟨by simp, heap_alloc_new wr _⟩⟩
        | 11, ho =>
          obtain rfl := Option.some.inj ho
          have r_k : ∃ bq, lo 10 ≤ bq ∧ x10 = .pointer (some ⟨bq, 0, none⟩) ∧ (¬ L 11 → bq < hi' 10 ∧ wr.heap[bq]? = some (.cells #[.string ⟨#[]⟩, .int .u32 0] (46) (0, 0))) := hmd.rel 10 (hpre 10 (by kernel_rfl))
          cases r_k with
          | intro bk h16 =>
          cases h16 with
          | intro _ h16 =>
          cases h16 with
          | intro h16 _ =>
          cases h16
          have h_9 : x9 = .agg #[.string (idB ri), .int .u32 rj] := hmd.rel 9 (hpre 9 (by kernel_rfl))
          subst h_9
          have kk := fun lx ox ax => sstep_row (P := Tryz.prog) (R := RG6 C x ri rj) (s := 11) (l := lx) (n := 12) (w0 := wc) (L := L) (xs := [x0, x1, x2, x3, x4, x5, x6, x7, x8, (.agg #[.string (idB ri), .int .u32 rj]), (.pointer (some ⟨bk, 0, none⟩)), x11]) (lo := lo) (hi := hi') (o := ox) (a := ax) (w := wr) (k := 10) (46) (.tmp 8) (.tmp 34) (46) #[.string ⟨#[]⟩, .int .u32 0] #[.string (idB ri), .int .u32 rj] bk
          refine kk _ _ _ ?_ ?_ ?_ ?_ ?_ ?_ ?_ ?_ ?_ ?_ ?_ ?_ ?_ ?_ ?_
          · exact rfl
          · exact rfl
          · exact rfl
          · exact hmd
          · exact hni
          · exact hpre 10 (by kernel_rfl)
          · rfl
          · rfl
          · kernel_rfl
          · kernel_rfl
          · kernel_rfl
          · rfl
          · kernel_rfl
          · kernel_rfl
          · kernel_rfl
        | q + 12, ho => omega
      · intro xs lo hi wr hmd
        obtain ⟨x0, x1, x2, x3, x4, x5, x6, x7, x8, x9, x10, x11, rfl⟩ : ∃ x0 x1 x2 x3 x4 x5 x6 x7 x8 x9 x10 x11, xs = [x0, x1, x2, x3, x4, x5, x6, x7, x8, x9, x10, x11] := by match xs, hmd.len with | [x0, x1, x2, x3, x4, x5, x6, x7, x8, x9, x10, x11], _ => exact ⟨_, _, _, _, _, _, _, _, _, _, _, _, rfl⟩
        simp only [putAll]
        change wpList _ _ _ [] _ _
        have h9 : x9 = .agg #[.string (idB ri), .int .u32 rj] := hmd.rel 9 (by decide)
        have r11 := hmd.st (show 11 < 12 by decide) (x := x10) (y := x9) (t := 46) rfl (by kernel_rfl) (by kernel_rfl)
        have hb2 := hmd.bel
        have hlo := (hmd.lohi 11 (by decide)).1
        clear hmd
        obtain ⟨P, cs, hP1, -, h10, h9', hz2⟩ := r11
        have hPo : wo.heap.size ≤ P := by have := HBC.out.size; omega
        subst h10 h9
        obtain rfl : cs = #[.string (idB ri), .int .u32 rj] := by injection h9' with e; exact e.symm
        have HBX := Lib.hid (HBC.out.trans (hb2.mono HBC.out.size))
        have HCZ := Lib.hid (stay HCZ.out hb2)
        have HPZ := Lib.hid hz2
        clear hz2 hb2 h9' c0 c1 hlo hP1
        obtain ⟨m1, hm1⟩ : ∃ q, q = min nb 3 := ⟨_, rfl⟩
        have hmi : min (nb : Int) 3 = (m1 : Int) := by omega
        have hmle : m1 ≤ nb := by omega
        have HB1' := Lib.hid (HBR.out.below HBX.out)
        have HPU := Lib.hid (rlput_any (.slice ab m1 cb) (x.br.take m1) wr (HB1'.out.cut hmle))
        unfold LockPutIs at HPU
        obtain ⟨lp, hlp⟩ : ∃ q, q = lockPut (x.br.take m1) := ⟨_, rfl⟩
        rw [← hlp] at HPU
        have HLP := Lib.hid (show lp.1.length ≤ 25 by rw [hlp]; exact lockPut_le _)
        have c4 : wr.cell? ⟨C, 4, none⟩ = some (.slice ab nb cb) := cell_at HCZ.out
        clear hm1 hlp
        go_upto_region 7 with fail
        go_wp2_with fail
        refine HPU.out.mono ?_
        rintro e w3 ⟨rfl, hb⟩
        have HB3 := Lib.hid (HBX.out.trans (hb.mono HBX.out.size))
        have HCZ := Lib.hid (stay HCZ.out hb)
        have HPZ := Lib.hid (stay HPZ.out hb)
        clear hb HPU c4 hmi hmle HB1'
        have c2 : w3.cell? ⟨C, 2, none⟩ = some (.int .i64 x.val) := cell_at HCZ.out
        have c3 : w3.cell? ⟨C, 3, none⟩ = some (.int .i64 x.ht) := cell_at HCZ.out
        have c5 : w3.cell? ⟨C, 5, none⟩ = some (.string x.script) := cell_at HCZ.out
        have c6 : w3.cell? ⟨C, 6, none⟩ = some (.bool x.raw) := cell_at HCZ.out
        obtain ⟨sm, hsm⟩ : ∃ q, q = min x.script.size 30 := ⟨_, rfl⟩
        have hsi : min (x.script.size : Int) 30 = (sm : Int) := by omega
        have hsle : sm ≤ x.script.size := by omega
        have HEX := Lib.hid (show (x.script.extract 0 sm).size ≤ maxLen from Nat.le_trans (by simp only [ByteArray.size_extract]; omega) HOK.out.script)
        clear hsm
        go_upto_region 8 with fail
        go_cut [51] (fun s wx => ∃ bo : Bool, s = .bool bo ∧ w3 = wx)
        case first =>
          obtain ⟨rw', hrw⟩ : ∃ q, q = x.raw := ⟨_, rfl⟩
          rw [← hrw] at c6
          clear hrw
          cases rw'
          · by_cases hz : lp.2 = 0
            · have hne : (lp.2 != 0) = false := by simp [hz]
              clear hz
              go_wp2_with fail
              go_meet
              exact ⟨_, rfl, rfl⟩
            · have hne : (lp.2 != 0) = true := by rw [bne_iff_ne]; exact hz
              clear hz
              go_wp2_with fail
              go_meet
              exact ⟨_, rfl, rfl⟩
          · go_wp2_with fail
            go_meet
            exact ⟨_, rfl, rfl⟩
        case rest =>
        rename World => wq
        obtain ⟨bo, rfl, rfl⟩ := hcut
        go_upto_if 51 with fail
        go_cut [9] (fun s wx => ∃ sc : ByteArray, s = .string sc ∧ sc.size ≤ maxLen ∧ w3 = wx)
        case first =>
          cases bo
          · go_wp2_with fail
            go_meet
            exact ⟨_, rfl, by rw [mk_size, maxLen_eq]; have := HLP.out; omega, rfl⟩
          · go_wp2_with fail
            go_meet
            exact ⟨_, rfl, HEX.out, rfl⟩
        case rest =>
          rename World => wx
          obtain ⟨sc, rfl, hsc, rfl⟩ := hcut
          have HSC := Lib.hid hsc
          clear hsc hsi hsle c5 c6 HEX
          go_upto_region 11 with fail
          have hz := heap_alloc_new w3 (.cells #[.int .i64 x.val, .string sc, .int .i64 x.ht] 50)
          have hal : Below w3.heap.size w3 (w3.alloc (.cells #[.int .i64 x.val, .string sc, .int .i64 x.ht] 50)) := (Below.refl _ _).alloc (Nat.le_refl _) _
          obtain ⟨K, hK⟩ : ∃ q, q = w3.heap.size := ⟨_, rfl⟩
          rw [← hK] at hz ⊢
          generalize w3.alloc (.cells #[.int .i64 x.val, .string sc, .int .i64 x.ht] 50) = w4 at *
          have HB4 := Lib.hid (HB3.out.trans (hal.mono HB3.out.size))
          have HKZ := Lib.hid hz
          have HPZ := Lib.hid (stay HPZ.out hal)
          have p0 : w4.cell? ⟨P, 0, none⟩ = some (.string (idB ri)) := cell_at HPZ.out
          have p1 : w4.cell? ⟨P, 1, none⟩ = some (.int .u32 rj) := cell_at HPZ.out
          have k0 : w4.cell? ⟨K, 0, none⟩ = some (.int .i64 x.val) := cell_at hz
          have k1 : w4.cell? ⟨K, 1, none⟩ = some (.string sc) := cell_at hz
          have k2 : w4.cell? ⟨K, 2, none⟩ = some (.int .i64 x.ht) := cell_at hz
          have hKo : wo.heap.size ≤ K := by have := HB3.out.size; omega
          clear hz hal hK c2 c3
          obtain ⟨y, hy⟩ : ∃ y : PEn, y = ⟨idB ri, rj, x.val, sc, x.ht⟩ := ⟨_, rfl⟩
          have HYO := Lib.hid (show y.Ok from by subst hy; exact ⟨by rw [idB_size, maxLen_eq]; decide, by show rj < _; omega, HOK.out.val, HSC.out, HOK.out.ht⟩)
          have HYE := Lib.hid hy
          have hset4 := HH.out.set.below HB4.out
          have HCP := Lib.hid (cput_any hset4 y.pt (enC y))
          have hrp := fun (w5 : World) (hs : S ≤ w5.heap.size) (ho : EnsOwn S w5 r0 le) => rput10_any S r0 le y w5 hs ho (fun z hz => ((goodA_iff _).1 (agr_good HH.out.agr HH.out.set.cwf z hz)).1) (by rw [← agr_sum HH.out.agr, HH.out.set.cwf.sum]; exact ((goodA_iff _).1 HH.out.set.cwf.tot).2) (by have := HLL.out; omega) HYO.out
          have HRP := Lib.hid hrp
          subst hy
          unfold PEn.pt enC ptV cnV at HCP
          dsimp only at HCP HRP
          have HO4 := Lib.hid (HH.out.own.below HB4.out)
          have HS4 := Lib.hid (Nat.le_trans hsz HB4.out.size)
          have hbS := HH.out.bS
          have hmS := HH.out.mS
          have HKB := Lib.hid (show K ≠ b ∧ K ≠ m ∧ P ≠ b ∧ P ≠ m by omega)
          have HAP := Lib.hid (agr_put HH.out.set.wf HH.out.set.cwf HH.out.agr ⟨idB ri, rj, x.val, sc, x.ht⟩)
          unfold PEn.pt enC at HAP
          dsimp only at HAP
          clear hset4 hrp
          go_wp2_with fail
          refine HCP.out.mono ?_
          rintro e w5 ⟨rfl, hfr, hcs⟩
          have HF5 := Lib.hid hfr
          have HCS := Lib.hid hcs
          have HO5 := Lib.hid (HO4.out.kept fun k hk => by
            have h1 := HO4.out.row.lt k hk
            exact hfr.block k h1.2 (by simp; omega))
          have HS5 := Lib.hid (Nat.le_trans HS4.out hfr.size)
          have HR5 := Lib.hid (HRP.out w5 HS5.out HO5.out)
          have hz2 : w5.heap[P]? = _ := (hfr.block P (Array.getElem?_eq_some_iff.1 HPZ.out).1 (by simp; omega)).trans HPZ.out
          have hz3 : w5.heap[K]? = _ := (hfr.block K (Array.getElem?_eq_some_iff.1 HKZ.out).1 (by simp; omega)).trans HKZ.out
          have p0 : w5.cell? ⟨P, 0, none⟩ = some (.string (idB ri)) := cell_at hz2
          have p1 : w5.cell? ⟨P, 1, none⟩ = some (.int .u32 rj) := cell_at hz2
          have k0 : w5.cell? ⟨K, 0, none⟩ = some (.int .i64 x.val) := cell_at hz3
          have k1 : w5.cell? ⟨K, 1, none⟩ = some (.string sc) := cell_at hz3
          have k2 : w5.cell? ⟨K, 2, none⟩ = some (.int .i64 x.ht) := cell_at hz3
          clear hfr hcs hz2 hz3 HCP
          go_wp2_with fail
          refine HR5.out.mono ?_
          rintro e w6 ⟨v', rfl, hens, hb⟩
          have HB6 := Lib.hid (show Below w.heap.size w w6 from by
            have h1 := HB.out.trans (HB4.out.mono HB.out.size)
            have h2 := HF5.out.below (B := w.heap.size) h1.size (by
              intro k hk
              have e1 := HH.out.set.blo
              have e2 := HH.out.set.mlo
              simp at hk
              omega)
            exact (h1.trans h2).trans (hb.mono (h1.trans h2).size))
          have hfin : ∃ (lc' : CL) (c' : Nat) (tot' : Int), (rput le ⟨idB ri, rj, x.val, sc, x.ht⟩).length ≤ k + 1 ∧ HeldS w.heap.size S w6 b m v' lc' c' tot' (rput le ⟨idB ri, rj, x.val, sc, x.ht⟩) := by
            have hcs := HCS.out
            have hap := HAP.out
            have hll := HLL.out
            by_cases hp : rputE le ⟨idB ri, rj, x.val, sc, x.ht⟩ = 0
            · have hp2 := hap.trans hp
              have hcs2 : CsAt w.heap.size w5 b m (lc ++ [((idB ri, rj), ⟨x.val, sc, x.ht⟩, c)]) (c + 1) (tot + x.val) := by
                rw [if_pos hp2] at hcs
                exact hcs
              unfold rput at hens ⊢
              rw [if_pos hp] at hens ⊢
              refine ⟨_, _, _, ?_, hcs2.below hb, hens, hbS, hmS, agr_snoc HH.out.agr ⟨idB ri, rj, x.val, sc, x.ht⟩ c, fun z hz => ?_⟩
              · rw [(rput_perm _ _).length_eq, List.length_cons]; omega
              · rcases List.mem_cons.1 ((rput_perm _ _).mem_iff.1 hz) with rfl | hz
                · exact ⟨ri, hri5, rfl⟩
                · exact HH.out.ids z hz
            · have hp2 : ¬ putE lc tot (idB ri, rj) ⟨x.val, sc, x.ht⟩ = 0 := fun e => hp (hap.symm.trans e)
              have hcs2 : CsAt w.heap.size w5 b m lc c tot := by
                rw [if_neg hp2] at hcs
                exact hcs
              unfold rput at hens ⊢
              rw [if_neg hp] at hens ⊢
              exact ⟨lc, c, tot, by omega, hcs2.below hb, hens, hbS, hmS, HH.out.agr, HH.out.ids⟩
          obtain ⟨lc', c', tot', hlen', hh'⟩ := hfin
          have HFN := Lib.hid (And.intro hlen' (And.intro (Nat.le_trans HS5.out hb.size) hh'))
          clear hens hb hlen' hh' HCS HAP HR5 HRP
          go_wp2_with fail
          go_roundg (q - (k + 1))
          case measure => have := HGK.out; omega
          case rel => exact ⟨k + 1, _, lc', c', tot', _, rfl, rfl, by omega, by go_num, HB6.out, HFN.out.2.1, HFN.out.1, HFN.out.2.2⟩
    · obtain rfl : q = k := by omega
      go_wp2_with fail
      go_ret2
      exact ⟨b, m, _, lc, c, tot, le, S, rfl, HH.out, by have := HLL.out; omega, hsz, HB.out⟩
end Go.Proofs.YtelindgnkpfkiaaGreatDoor
end

section
/-
  A witness signed: kedgeref08.Sign, its text in a block of its own. Conditions: none beyond each theorem's own.
-/
namespace Go.Proofs.YtelindgnkpfkiaaGreatDoor
open Go.RowKit Go.BigFrame
set_option linter.unusedVariables false
set_option linter.unusedSimpArgs false

def NewStr (w : World) (s : ByteArray) (v : Value) (w' : World) : Prop := ∃ b, v = .slice (some ⟨b, 0, none⟩) 1 1 ∧ w.heap.size ≤ b ∧ w'.heap[b]? = some (.cells #[.string s] 9 (0, 0)) ∧ Below w.heap.size w w'
set_option maxRecDepth 100000 in
set_option maxHeartbeats 1000000 in
theorem rsign_new (n t : Nat) (h : n < 3) (ht : t < 65536) (w : World) : Calls Tryz.prog 27 #[.int .i64 n, .int .u16 t] w fun e w' => ∃ v, e = .returned v ∧ NewStr w (signW n t) v w' := by
  have hcv := three_bytes w n (t % 256) (t / 256) (by omega) (by omega) (by omega)
  have e1 : (t : Int).tmod 256 = ((t % 256 : Nat) : Int) := by rw [Int.tmod_eq_emod_of_nonneg (by omega)]; omega
  have e2 : (t : Int).tdiv 256 = ((t / 256 : Nat) : Int) := by rw [Int.tdiv_eq_ediv_of_nonneg (by omega)]; omega
  have hq : t / 256 < 256 := by omega
  have hr : t % 256 < 256 := by omega
  have hw : signW n t = ⟨[UInt8.ofNat n, UInt8.ofNat (t % 256), UInt8.ofNat (t / 256)].toArray⟩ := by
    unfold signW
    congr 2
    have h8 : UInt8.ofNat t = UInt8.ofNat (t % 256) := UInt8.toNat_inj.1 (by simp)
    simp [leB, ← h8]
  have HW := Lib.hid hw
  clear hw
  generalize t % 256 = r at *
  generalize t / 256 = q at *
  go_enter Tryz.func27, Tryz.ntmps27
  go_wp2
  go_ret
  have hz := heap_alloc_new (w.alloc (.cells #[.int .u8 n, .int .u8 r, .int .u8 q] 5)) (.cells #[.string ⟨[UInt8.ofNat n, UInt8.ofNat r, UInt8.ofNat q].toArray⟩] 9)
  rw [← HW.out] at hz ⊢
  rw [show (w.alloc (.cells #[.int .u8 n, .int .u8 r, .int .u8 q] 5)).heap.size = w.heap.size + 1 by simp] at hz
  exact ⟨_, rfl, _, rfl, by simp, hz, ((Below.refl _ _).alloc (Nat.le_refl _) _).alloc (by simp) _⟩

end Go.Proofs.YtelindgnkpfkiaaGreatDoor
end
