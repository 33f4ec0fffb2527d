/-
  MinerOrder, part 3: the texts Mg, Mh, Mi, Md, Mj, Mu, one after another. Conditions: none beyond those named at each.
-/
import Derived.Test.YtfkcldaogfengaaQ2MinerOrder
import Derived.Shelf.SlicesE.DeleteFunc
import Derived.Sort.OwnSorted
import Derived.Test.YtfkcldaogfengaaNew
import Derived.Test.YtfkcldaogfengaaQ1MinerOrder
section
/-
  miner.bundle: the places of an entry's package, rising, but for some. Conditions: the entries and the list lie in memory.
-/
namespace Go.Proofs.Ytfkcldaogfengaa
open Go.RowKit Go.BigFrame Go.Sort Go.Shelf
set_option linter.unusedVariables false
set_option linter.unusedSimpArgs false

theorem bundle1_any (zs : List Int) (v : Value) (X : Nat) (x : Int) (W : World) (hX : W.heap[X]? = some (.cells #[v] 23 (0, 0))) (hv : IntsAt W v zs) :
    Calls Try.prog 41 #[.int .i64 x, .pointer (some ⟨X, 0, none⟩)] W fun e w' => e = .returned (.bool (zs.contains x)) ∧ W = w' := by
  obtain ⟨ct, hct⟩ : ∃ ct, ct = zs.contains x := ⟨_, rfl⟩
  have hcc := cont_any v zs x W hv
  rw [← hct] at hcc ⊢
  have HC := Lib.hid hcc
  clear hct hcc
  obtain ⟨a, c, rfl, -, -⟩ := SlAt.shape hv
  have c0 : W.cell? ⟨X, 0, none⟩ = some (.slice a zs.length c) := cell_at hX
  clear hX hv
  generalize zs.length = n at *
  go_enter Try.func41, Try.ntmps41
  go_wp2_with fail
  refine HC.out.mono ?_
  rintro e w' ⟨rfl, rfl⟩
  go_wp2_with fail
  go_ret
  exact ⟨rfl, rfl⟩
def DelP (w0 : World) (l : List Int) (e : Ending) (w' : World) : Prop := ∃ v', e = .returned v' ∧ w'.ownsRow w0.heap.size 3 1 v' l.length (l.map (Value.int .i64)) ∧ Below w0.heap.size w0 w'
theorem mdel_any (w0 w : World) (zs : List Int) (v : Value) (X g cap k : Nat) (ss : List Int) (hk : ss.length = k) (hX : w.heap[X]? = some (.cells #[v] 23 (0, 0))) (hXg : X ≠ g) (hv : IntsAt w0 v zs) (hb : Below w0.heap.size w0 w) (hg0 : w0.heap.size ≤ g)
    (hrow : w.ownsRow w0.heap.size 3 1 (.slice (some ⟨g, 0, none⟩) ss.length cap) ss.length (ss.map (Value.int .i64))) :
    Calls Try.prog 40 #[.slice (some ⟨g, 0, none⟩) k cap, .func (.func 41) #[] #[.pointer (some ⟨X, 0, none⟩)]] w (DelP w0 (ss.filter fun x => !zs.contains x)) := by
  subst hk
  rcases hrow.2 with ⟨e, -⟩ | ⟨g', cap', cur, e, hbase, hgb, r1, r2, r3, r4⟩
  · cases e
  obtain ⟨rfl, rfl⟩ : g = g' ∧ cap = cap' := by simpa using e
  have hH : Holds encZ w g 0 ss.toArray := holds_of_block_i hgb (by simpa using r4)
  have hgl : g < w.heap.size := (Array.getElem?_eq_some_iff.1 hgb).1
  have hcl : ∀ (W : World) (x : Int), W.heap[X]? = some (.cells #[v] 23 (0, 0)) → Below w0.heap.size w0 W → FnGives Try.prog 41 #[.pointer (some ⟨X, 0, none⟩)] #[encZ x] (.bool (zs.contains x)) W := fun W x h1 h2 =>
    (bundle1_any zs v X x W h1 (hv.below h2)).mono fun e w' ⟨he, hw⟩ => ⟨he, 0, hw.symm⟩
  have hss : ss.toArray.size = ss.length := by simp
  rw [maxLen_eq] at r2
  have hK := Try.slices_DeleteFunc encZ (fun _ => rfl) (fun x => zs.contains x) 41 #[.pointer (some ⟨X, 0, none⟩)] (enters_of Try.func41 (by kernel_rfl) rfl) 0 (fun w => by kernel_rfl) g 0 cap ss.toArray w
    (fun W x hB => hcl W x (stay hX hB) (hb.trans (hB.mono hb.size)))
    (fun n os dk x hdk => hcl _ x ((grownBy_sorted_i (n := n) (os := os) (w := w) (g := g) dk).block X (lt_of hX) (by intro e; injection e; omega) |>.trans hX) (hb.grown (grownBy_sorted_i (n := n) (os := os) (w := w) (g := g) dk) hb.size (fun j hj => by cases hj; exact hg0)))
    hH (by rw [hss]; omega) (by rw [hss]; exact r1)
  rw [hss] at hK
  have htl : ss.toArray.toList = ss := by simp
  rw [htl] at hK
  refine hK.mono fun e w' ⟨he, q, hw⟩ => ?_
  obtain ⟨fl, hfl⟩ : ∃ fl, fl = ss.filter fun x => !zs.contains x := ⟨_, rfl⟩
  rw [← hfl] at he hw ⊢
  have hle : fl.length ≤ ss.length := by rw [hfl]; exact List.length_filter_le _ _
  have hlen : (fl ++ List.replicate (ss.length - fl.length) (0 : Int)).length = ss.length := by simp; omega
  have ho := ownsRow_sorted_i (n := q) (os := #[]) (base := w0.heap.size) (e := 3) (ts := fl ++ List.replicate (ss.length - fl.length) 0) hlen hg0 hgb r1 (by rw [maxLen_eq]; exact r2) r3
  rw [grow_empty, ← hw] at ho
  have ho2 := ownsRow_cut ho hle
  have e2 : ((fl ++ List.replicate (ss.length - fl.length) (0 : Int)).map encZ).take fl.length = fl.map (Value.int .i64) := by
    rw [← List.map_take, List.take_left']
    rfl
  rw [e2] at ho2
  have hg := grownBy_sorted_i (n := q) (os := #[]) (w := w) (g := g) (fl ++ List.replicate (ss.length - fl.length) (0 : Int)).toArray
  rw [grow_empty, ← hw] at hg
  exact ⟨_, he, ho2, hb.grown hg hb.size (fun j hj => by cases hj; exact hg0)⟩

theorem msort_any (base : Nat) (w : World) (g cap : Nat) (q : List Nat) (k : Nat) (hk : k = q.length) (hrow : NatRow base w (.slice (some ⟨g, 0, none⟩) k cap) q) (hsm : q.length < 4611686018427387904) :
    Calls Try.prog 39 #[.slice (some ⟨g, 0, none⟩) k cap] w fun e w' => e = .returned (.tuple #[]) ∧
      (((q.map natI).mergeSort leI).length = k ∧ w'.ownsRow base 3 1 (.slice (some ⟨g, 0, none⟩) ((q.map natI).mergeSort leI).length cap) ((q.map natI).mergeSort leI).length (((q.map natI).mergeSort leI).map (Value.int .i64))) ∧ w.grownBy w' (some g) := by
  subst hk
  rcases hrow.2 with ⟨e, -⟩ | ⟨g', cap', cur, e, hbase, hgb, r1, r2, r3, r4⟩
  · cases e
  obtain ⟨rfl, rfl⟩ : g = g' ∧ cap = cap' := by simpa using e
  have hlz : (q.map natI).length = q.length := List.length_map ..
  have hH : Holds encZ w g 0 (q.map natI).toArray := holds_of_block_i hgb (by rw [hlz]; simpa using r4)
  have hgl : g < w.heap.size := (Array.getElem?_eq_some_iff.1 hgb).1
  have hS := Try.slices_Sort_int g 0 cap (q.map natI) w hH hgl (by rw [hlz]; exact hsm)
  rw [hlz] at hS
  refine hS.mono fun e w' ⟨he, nn, os, hw⟩ => ?_
  have hlen : ((q.map natI).mergeSort leI).length = q.length := by rw [List.length_mergeSort, hlz]
  subst hw
  refine ⟨he, ⟨hlen, ?_⟩, grownBy_sorted_i _⟩
  rw [hlen]
  have h := ownsRow_sorted_i (n := nn) (os := os) (base := base) (ss := q.map natI) (ts := (q.map natI).mergeSort leI) (by rw [hlen, hlz]) hbase hgb (by rw [hlz]; exact r1) r2 r3
  rw [hlz] at h
  exact h
/-! ### the walk -/
structure BunS (w : World) (X : Nat) (bv : Value) (v7 : Value) (q : List Nat) (wr : World) : Prop where
  row : NatRow (w.heap.size + 1) wr v7 q
  box : wr.heap[X]? = some (.cells #[bv] 23 (0, 0))
  bel : Below w.heap.size w wr
  xw : X = w.heap.size
theorem BunS.next {w wr w' : World} {X : Nat} {bv v7 : Value} {q : List Nat} (h : BunS w X bv v7 q wr) (hb : Below wr.heap.size wr w') : BunS w X bv v7 q w' := ⟨h.row.below hb, stay h.box hb, h.bel.trans (hb.mono h.bel.size), h.xw⟩
theorem own_block {w : World} {base g : Nat} {e : TypeId} {cs : Array Value} (hb : base ≤ g) (h : w.heap[g]? = some (.cells cs e (0, 0))) (n : Nat) (hn : cs.size = n) (hl : n ≤ maxLen) : w.ownsRow base e 1 (.slice (some ⟨g, 0, none⟩) n n) n cs.toList := by
  refine ⟨by simp [hn], .inr ⟨g, n, cs, rfl, hb, h, Nat.le_refl _, hl, by omega, ?_⟩⟩
  rw [Nat.mul_one, ← hn, ← Array.length_toList, List.take_length]
theorem BunS.app {w wr : World} {X : Nat} {bv v7 : Value} {q : List Nat} (h : BunS w X bv v7 q wr) (j : Nat) (hn : q.length < 1000000) :
    ∃ a' c' w', (Builtin.append_ #[23, 23] 23 #[v7, .slice (some ⟨wr.heap.size, 0, none⟩) 1 1]).run Try.prog (wr.alloc (.cells #[.int .i64 (j : Int)] 3)) = .ok (.slice a' (q.length + 1) c') w' ∧ BunS w X bv (.slice a' (q.length + 1) c') (q ++ [j]) w' := by
  obtain ⟨i0, hi, hz0, hz1, hz2⟩ := info_parts info_int
  have hx := lt_of h.box
  obtain ⟨a2, c2, w2, hrun, hown2, hb2, hg2, hv2⟩ := append_one (P := Try.prog) Try.underlying23 hi hz0 hz1 hz2 rfl h.row #[.int .i64 (j : Int)] rfl (by simp [Value.oneCell']) (by rw [maxLen_eq]; omega) (by omega) (by have := h.xw; omega) (ty := 23)
  refine ⟨a2, c2, w2, hrun, ⟨?_, ?_, h.bel.trans (hb2.mono (by omega)), h.xw⟩⟩
  · unfold NatRow
    rw [List.length_append, List.map_append, List.map_append]
    exact hown2
  · rw [hg2.block X (by simp; omega) (fun e => by have := (h.row.lt X e.symm).1; have := h.xw; omega)]
    rw [Below.heap_alloc wr _ X hx]
    exact h.box
def BunP (l : List PE) (a : Nat) (zs : List Int) (w : World) (e : Ending) (w' : World) : Prop := ∃ v, e = .returned v ∧ NatRow w.heap.size w' v (bundL l a fun k => zs.contains (natI k)) ∧ Below w.heap.size w w'
set_option maxRecDepth 100000 in
set_option maxHeartbeats 4000000 in
theorem bundle_any (sl bv : Value) (l : List PE) (at_ : Nat) (zs : List Int) (w : World) (hsl : SlAt rpE w sl l) (hbv : IntsAt w bv zs) (hat : at_ < l.length) (hlen : l.length ≤ 1000) :
    Calls Try.prog 23 #[sl, .int .i64 at_, bv] w (BunP l at_ zs w) := by
  have HSL := Lib.hid hsl
  have HBV := Lib.hid hbv
  obtain ⟨a, c, rfl, hl1, hl2⟩ := hsl.shape
  obtain ⟨a', c', rfl, -, -⟩ := SlAt.shape hbv
  rw [maxLen_eq] at hl2
  obtain ⟨n, hn⟩ : ∃ n, n = l.length := ⟨_, rfl⟩
  obtain ⟨m, hm⟩ : ∃ m, m = zs.length := ⟨_, rfl⟩
  have HAT := Lib.hid hat
  rw [← hn] at hl1 HSL hat hlen ⊢
  rw [← hm] at HBV ⊢
  have HN := Lib.hid hn
  have HLEN := Lib.hid hlen
  clear hn hm hsl hbv hlen
  go_enter Try.func23, Try.ntmps23
  go_upto_region 2 with fail
  obtain ⟨X, hX⟩ : ∃ q, q = w.heap.size := ⟨_, rfl⟩
  have hnews := new2 w X hX (.cells #[.slice a' m c'] 23) (.cells #[.int .i64 at_] 3)
  rw [← hX]
  generalize ((w.alloc (.cells #[.slice a' m c'] 23)).alloc (.cells #[.int .i64 at_] 3)) = w0 at *
  obtain ⟨hz0, hz1, hal⟩ := hnews
  have HX := Lib.hid hX
  have HST := Lib.hid (show BunS w X (.slice a' m c') (.slice (some ⟨X + 1, 0, none⟩) 1 1) [at_] w0 from ⟨own_block (by rw [hX]; exact Nat.le_refl _) hz1 1 rfl (by decide), hz0, hal, hX⟩)
  clear hz0 hz1 hal hX
  go_wp2_with fail
  go_loopg [7, 8] n (fun g v i wr => ∃ (k : Nat) (q : List Nat) (v0 : Value), v = v0 ∧ g = n - k ∧ i = .int .i64 k ∧ k ≤ q.length ∧ Road l at_ q k ∧ BunS w X (.slice a' m c') v0 q wr)
  case atStart => exact ⟨0, [at_], _, rfl, rfl, rfl, by simp, Road.start l at_, HST.out⟩
  case round =>
    clear HST
    rename World => wo
    obtain ⟨k, q, v0, hv0, hgk, rfl, hkq, hroad, hst⟩ := hrel
    obtain rfl := hv0.symm
    have hql := hroad.len HAT.out
    rw [← HN.out] at hql
    have HGK := Lib.hid hgk
    have HROAD := Lib.hid hroad
    have HST := Lib.hid hst
    obtain ⟨qa, qc, rfl, -, -⟩ := ownsRow_shape hst.row
    clear hgk hroad hst
    obtain ⟨ql, hqle⟩ : ∃ ql, ql = q.length := ⟨_, rfl⟩
    have HQLE := Lib.hid hqle
    rw [← hqle] at hkq hql HST ⊢
    clear hqle
    by_cases hlt : k < ql
    · obtain ⟨x, hx⟩ : ∃ x, q[k]? = some x := ⟨_, List.getElem?_eq_getElem (by rw [← HQLE.out]; exact hlt)⟩
      have HLK := Lib.hid (HROAD.out.look hx)
      have hxn : x < n := by rw [HN.out]; exact reach_lt (HROAD.out.reach x (List.mem_of_getElem? hx)) HAT.out
      clear hx
      go_wp2_with fail
      go_loopg [7, 21] n (fun g v i wr => ∃ (j : Nat) (p : List Nat) (v0 : Value), v = v0 ∧ g = n - j ∧ j ≤ n ∧ i = .int .i64 j ∧ Look l at_ p k x j ∧ BunS w X (.slice a' m c') v0 p wr)
      case atStart => exact ⟨0, q, _, rfl, rfl, by omega, rfl, HLK.out, HST.out⟩
      case round =>
        clear HLK HST HROAD
        rename World => wp
        obtain ⟨j, p, v0, hv0, hgj, hj, rfl, hlk, hst⟩ := hrel
        obtain rfl := hv0.symm
        have hpl := hlk.road.len HAT.out
        rw [← HN.out] at hpl
        have hkp : k < p.length := (List.getElem?_eq_some_iff.1 hlk.at_).1
        have HGJ := Lib.hid hgj
        have HLK := Lib.hid hlk
        have HST := Lib.hid hst
        obtain ⟨pa, pc, rfl, hp1, hp2⟩ := ownsRow_shape hst.row
        rw [maxLen_eq] at hp2
        obtain ⟨pb, rfl, -, -⟩ := ownsRow_some hst.row (by omega)
        clear hgj hlk hst
        obtain ⟨pl, hple⟩ : ∃ pl, pl = p.length := ⟨_, rfl⟩
        have HPLE := Lib.hid hple
        rw [← hple] at hpl hkp hp1 HST ⊢
        clear hple
        by_cases hjn : j < n
        · obtain ⟨sb, so, ye, ia, ni, ic, oa, no, oc, rfl, hy, hye, hyl, d0, d1, d2, d3, d4, d5, d6⟩ := (HSL.out.below HST.out.bel).ent hjn
          have HY := Lib.hid hy
          have HYE := Lib.hid hye
          clear hy hye hyl
          go_upto_region 8 with fail
          have hz := heap_alloc_new wp (.cells #[.int .u32 ye.tx.ver, .slice ia ni ic, .slice oa no oc, .int .u32 ye.tx.lock, .string ye.id, .int .i64 ye.fee, .int .i64 ye.size] 43)
          have hal : Below wp.heap.size wp (wp.alloc (.cells #[.int .u32 ye.tx.ver, .slice ia ni ic, .slice oa no oc, .int .u32 ye.tx.lock, .string ye.id, .int .i64 ye.fee, .int .i64 ye.size] 43)) := (Below.refl _ _).alloc (Nat.le_refl _) _
          obtain ⟨Y, hY⟩ : ∃ q, q = wp.heap.size := ⟨_, rfl⟩
          rw [← hY] at hz ⊢
          generalize wp.alloc (.cells #[.int .u32 ye.tx.ver, .slice ia ni ic, .slice oa no oc, .int .u32 ye.tx.lock, .string ye.id, .int .i64 ye.fee, .int .i64 ye.size] 43) = w1 at *
          have HST1 := Lib.hid (HST.out.next hal)
          have HYE1 := Lib.hid (HYE.out.below hal)
          have y0 : w1.cell? ⟨Y, 0, none⟩ = some (.int .u32 ye.tx.ver) := cell_at hz
          have y1 : w1.cell? ⟨Y, 1, none⟩ = some (.slice ia ni ic) := cell_at hz
          have y2 : w1.cell? ⟨Y, 2, none⟩ = some (.slice oa no oc) := cell_at hz
          have y3 : w1.cell? ⟨Y, 3, none⟩ = some (.int .u32 ye.tx.lock) := cell_at hz
          have y4 : w1.cell? ⟨Y, 4, none⟩ = some (.string ye.id) := cell_at hz
          have y5 : w1.cell? ⟨Y, 5, none⟩ = some (.int .i64 ye.fee) := cell_at hz
          have y6 : w1.cell? ⟨Y, 6, none⟩ = some (.int .i64 ye.size) := cell_at hz
          clear hz hal hY d0 d1 d2 d3 d4 d5 d6 HST HYE
          have hsm : ∀ z ∈ p, z < 4611686018427387904 := fun z hz => by
            have h1 := reach_lt (HLK.out.road.reach z hz) HAT.out
            rw [← HN.out] at h1
            have := HLEN.out
            omega
          have HIN := Lib.hid (HST1.out.row.ints hsm)
          clear hsm
          have x0 : w1.cell? ⟨pb, k, none⟩ = some (.int .i64 x) := by
            obtain ⟨b, o, z, e1, e2, e3⟩ := IntsAt.cell HIN.out (i := k) hkp
            obtain ⟨rfl, rfl⟩ : pb = b ∧ 0 = o := by simpa using e1
            rw [List.getElem?_map, HLK.out.at_] at e2
            obtain rfl := Option.some.inj e2
            simpa [natI] using e3
          obtain ⟨sb', so', z, ia', ni', ic', oa', no', oc', hsa, hz, hze, -, g0, g1, g2, g3, -, -, -⟩ := (HSL.out.below HST1.out.bel).ent hxn
          obtain ⟨rfl, rfl⟩ : sb = sb' ∧ so = so' := by simpa using hsa
          have HZ := Lib.hid hz
          have HZE := Lib.hid hze
          clear hz hze hsa
          obtain ⟨ct, hct⟩ : ∃ ct, ct = p.contains j := ⟨_, rfl⟩
          have HCT := Lib.hid hct
          have hcc : (p.map natI).contains (j : Int) = ct := by rw [hct]; exact nat_contains p j
          have HCC := Lib.hid hcc
          clear hct hcc
          obtain ⟨ed, hed⟩ : ∃ ed, ed = hangsB z.tx ye := ⟨_, rfl⟩
          have HED := Lib.hid (hed.trans (edge_at HZ.out HY.out).symm)
          have HNC := Lib.hid (show ∀ wy : World, Below w1.heap.size w1 wy → Calls Try.prog 28 #[.slice (some ⟨pb, 0, none⟩) pl pc, .int .i64 (j : Int)] wy (fun e w' => e = .returned (.bool ct) ∧ Below wy.heap.size wy w') from fun wy h =>
            HCC.out ▸ (cont_any (.slice (some ⟨pb, 0, none⟩) pl pc) (p.map natI) (j : Int) wy (HIN.out.below h)).mono fun e w' ⟨he, hw⟩ => ⟨he, hw ▸ Below.refl _ _⟩)
          have HNH := Lib.hid (show ∀ wy : World, Below w1.heap.size w1 wy → Calls Try.prog 38 #[.agg #[.int .u32 z.tx.ver, .slice ia' ni' ic', .slice oa' no' oc', .int .u32 z.tx.lock], .agg #[.int .u32 ye.tx.ver, .slice ia ni ic, .slice oa no oc, .int .u32 ye.tx.lock, .string ye.id, .int .i64 ye.fee, .int .i64 ye.size]] wy (fun e w' => e = .returned (.bool ed) ∧ Below wy.heap.size wy w') from fun wy h =>
            hed ▸ hangs_any z.tx ye _ _ _ wy (HZE.out.below h).tx (HYE1.out.below h))
          clear hed
          cases ct
          rotate_left
          · have HMEM := Lib.hid (show j ∈ p by simpa using HCT.out.symm)
            obtain ⟨C, hC⟩ : ∃ C : World → Prop, C = fun w' => Below w1.heap.size w1 w' := ⟨_, rfl⟩
            have ky0 := kin_cell hC y0
            have ky1 := kin_cell hC y1
            have ky2 := kin_cell hC y2
            have ky3 := kin_cell hC y3
            have ky4 := kin_cell hC y4
            have ky5 := kin_cell hC y5
            have ky6 := kin_cell hC y6
            have kx0 := kin_cell hC x0
            have kg0 := kin_cell hC g0
            have kg1 := kin_cell hC g1
            have kg2 := kin_cell hC g2
            have kg3 := kin_cell hC g3
            have QNc := Lib.hid (kin_call hC fun y h => (HNC.out y h))
            have QNh := Lib.hid (kin_call hC fun y h => (HNH.out y h))
            have HC := Lib.hid hC
            clear hC
            refine wp_region_kin C (by kernel_rfl) (by kernel_rfl) (by rw [HC.out]; exact ⟨rfl, rfl, rfl, Nat.le_refl _, fun _ _ => rfl⟩) ?_
            intro hne
            repeat (first | (go_big_quiet_step (first | (rename_i y; go_at_call 28; exact Calls.kin (QNc.out y) (fun w' h => h)) | (rename_i y; go_at_call 38; exact Calls.kin (QNh.out y) (fun w' h => h)))) | (quiet_step (first | (rename_i y; go_at_call 28; exact Calls.kin (QNc.out y) (fun w' h => h)) | (rename_i y; go_at_call 38; exact Calls.kin (QNh.out y) (fun w' h => h)))))
            refine wpQuiet_nil ?_
            intro _ hw'
            obtain ⟨kx, hw''⟩ := hw'
            subst hw''
            obtain ⟨w2, hxc⟩ := kx
            rw [HC.out] at hxc
            clear HC hne ky0 ky1 ky2 ky3 ky4 ky5 ky6 kx0 kg0 kg1 kg2 kg3
            have HST2 := Lib.hid (HST1.out.next hxc)
            clear hxc y0 y1 y2 y3 y4 y5 y6 x0 g0 g1 g2 g3
            go_wp2_with fail
            go_roundg (n - (j + 1))
            case measure => have := HGJ.out; omega
            case rel => exact ⟨j + 1, p, _, rfl, rfl, by omega, by go_num, HLK.out.skip (.inl HMEM.out), HST2.out⟩
          · have HNM := Lib.hid (show j ∉ p by simpa using HCT.out.symm)
            go_cut [41] (fun s wx => s = .bool ed ∧ Below w1.heap.size w1 wx)
            case first =>
              obtain ⟨C, hC⟩ : ∃ C : World → Prop, C = fun w' => Below w1.heap.size w1 w' := ⟨_, rfl⟩
              have ky0 := kin_cell hC y0
              have ky1 := kin_cell hC y1
              have ky2 := kin_cell hC y2
              have ky3 := kin_cell hC y3
              have ky4 := kin_cell hC y4
              have ky5 := kin_cell hC y5
              have ky6 := kin_cell hC y6
              have kx0 := kin_cell hC x0
              have kg0 := kin_cell hC g0
              have kg1 := kin_cell hC g1
              have kg2 := kin_cell hC g2
              have kg3 := kin_cell hC g3
              have QNc := Lib.hid (kin_call hC fun y h => (HNC.out y h))
              have QNh := Lib.hid (kin_call hC fun y h => (HNH.out y h))
              have HC := Lib.hid hC
              clear hC
              refine wp_region_kin C (by kernel_rfl) (by kernel_rfl) (by rw [HC.out]; exact ⟨rfl, rfl, rfl, Nat.le_refl _, fun _ _ => rfl⟩) ?_
              intro hne
              repeat (first | (go_big_quiet_step (first | (rename_i y; go_at_call 28; exact Calls.kin (QNc.out y) (fun w' h => h)) | (rename_i y; go_at_call 38; exact Calls.kin (QNh.out y) (fun w' h => h)))) | (quiet_step (first | (rename_i y; go_at_call 28; exact Calls.kin (QNc.out y) (fun w' h => h)) | (rename_i y; go_at_call 38; exact Calls.kin (QNh.out y) (fun w' h => h)))))
              refine wpQuiet_nil ?_
              intro _ hw'
              obtain ⟨kx, hw''⟩ := hw'
              subst hw''
              obtain ⟨w2, hxc⟩ := kx
              rw [HC.out] at hxc
              clear HC hne ky0 ky1 ky2 ky3 ky4 ky5 ky6 kx0 kg0 kg1 kg2 kg3
              go_wp2_with fail
              go_meet
              exact ⟨rfl, hxc⟩
            case rest =>
            obtain ⟨rfl, hxc⟩ := hcut
            rename World => w2
            have HST2 := Lib.hid (HST1.out.next hxc)
            clear hxc y0 y1 y2 y3 y4 y5 y6 x0 g0 g1 g2 g3 HNC HNH
            cases ed
            · go_wp2_with fail
              go_roundg (n - (j + 1))
              case measure => have := HGJ.out; omega
              case rel => exact ⟨j + 1, p, _, rfl, rfl, by omega, by go_num, HLK.out.skip (.inr HED.out.symm), HST2.out⟩
            · have hall := (HLK.out.add HNM.out HED.out.symm)
              obtain ⟨a3, c3, wd, hrun, hst3⟩ := HST2.out.app j (by have := HLEN.out; have := HPLE.out; omega)
              have HALL := Lib.hid hall
              rw [← HPLE.out] at hrun hst3
              have HR := Lib.hid hrun
              have HST3 := Lib.hid hst3
              clear hall hrun hst3
              go_wp2_with (at_builtin; refine wpList_append_run rfl (.tmp 42) (.tmp 44) 23 23 rfl rfl rfl HR.out ?_)
              go_roundg (n - (j + 1))
              case measure => have := HGJ.out; omega
              case rel => exact ⟨j + 1, p ++ [j], _, rfl, rfl, by omega, by go_num, HALL.out, HST3.out⟩
        · obtain rfl : j = n := by omega
          have HRD := Lib.hid (show Road l at_ p (k + 1) by have h := HLK.out; rw [HN.out] at h; exact h.road_next)
          go_wp2_with fail
          go_roundg (j - (k + 1))
          case measure => have := HGK.out; omega
          case rel => exact ⟨k + 1, p, _, rfl, rfl, by go_num, by have := HPLE.out; omega, HRD.out, HST.out⟩
    · obtain rfl : k = ql := by omega
      have HRD := Lib.hid (show Road l at_ q q.length by have h := HROAD.out; rw [HQLE.out] at h; exact h)
      go_wp2_with fail
      have hrow : wo.ownsRow (w.heap.size + 1) 3 1 (.slice qa k qc) k ((q.map natI).map (Value.int .i64)) := by
        have h := HST.out.row
        unfold NatRow at h
        rw [← HQLE.out] at h
        exact h
      obtain ⟨g, rfl, hg1, hg2⟩ := ownsRow_some hrow (by have := HROAD.out.self; have := List.length_pos_of_mem this; have := HQLE.out; omega)
      refine (msort_any _ wo g qc q k HQLE.out HST.out.row (by have := HLEN.out; have := HQLE.out; omega)).mono ?_
      rintro e w1 ⟨rfl, hrow1, hgr⟩
      rw [HRD.out.sorted HAT.out] at hrow1
      have HROW := Lib.hid hrow1
      have HGR := Lib.hid hgr
      have HG := Lib.hid (show X < g by have := HST.out.xw; omega)
      clear hrow hrow1 hgr
      go_wp2_with fail
      have hx1 : w1.heap[X]? = some (.cells #[.slice a' m c'] 23 (0, 0)) := (HGR.out.block X (lt_of HST.out.box) (by have := HG.out; intro e; injection e; omega)).trans HST.out.box
      have hb1 : Below w.heap.size w w1 := HST.out.bel.grown HGR.out HST.out.bel.size (fun j hj => by cases hj; have := HST.out.xw; have := HG.out; omega)
      refine (mdel_any w w1 zs _ X g qc k (((List.range l.length).filter (reachB l at_)).map natI) ?hk hx1 (by have := HG.out; omega) HBV.out hb1 (by have := HST.out.xw; have := HG.out; omega) ?hrow).mono ?_
      case hk => exact HROW.out.1
      case hrow => exact ownsRow_base HROW.out.2 (by omega)
      rintro e w2 ⟨v2, rfl, hrow2, hb2⟩
      go_wp2_with fail
      go_ret
      refine ⟨_, rfl, ?_, hb2⟩
      have e2 : ((((List.range l.length).filter (reachB l at_)).map natI).filter fun x => !zs.contains x) = (bundL l at_ fun k => zs.contains (natI k)).map natI := by
        rw [List.filter_map, List.filter_filter]
        unfold bundL
        refine congrArg (List.map natI) (List.filter_congr fun k _ => ?_)
        exact Bool.and_comm _ _
      rw [e2] at hrow2
      unfold NatRow
      rw [List.length_map] at hrow2
      exact hrow2
end Go.Proofs.Ytfkcldaogfengaa
end

section
/-
  miner.Score, miner.best. Conditions: the entries, of bounded fees and sizes, and the lists lie in memory.
-/
namespace Go.Proofs.Ytfkcldaogfengaa
open Go.RowKit Go.BigFrame
set_option linter.unusedVariables false
set_option linter.unusedSimpArgs false

noncomputable def scoreZ (l : List PE) (zs : List Int) (i : Nat) : Int × Int := feeL l (bundL l i fun k => zs.contains (natI k))
theorem scoreZ_nat (l : List PE) (taken : List Nat) (i : Nat) : scoreZ l (taken.map natI) i = scoreOf l taken i := by
  unfold scoreZ scoreOf
  congr 1
  congr 1
  funext k
  exact nat_contains taken k
theorem bund_small {l : List PE} {a : Nat} {but : Nat → Bool} (hl : l.length ≤ 1000) : ∀ k ∈ bundL l a but, k < 4611686018427387904 := fun k hk => by have := (mem_bundL.1 hk).1; omega
theorem bund_len (l : List PE) (a : Nat) (but : Nat → Bool) : (bundL l a but).length ≤ l.length := nodup_len (bundL_nodup l a but) fun k hk => (mem_bundL.1 hk).1
set_option maxRecDepth 100000 in
set_option maxHeartbeats 2000000 in
theorem score_any (sl bv : Value) (l : List PE) (at_ : Nat) (zs : List Int) (w : World) (hsl : SlAt rpE w sl l) (hbv : IntsAt w bv zs) (hz : Sized l) (hat : at_ < l.length) :
    Calls Try.prog 9 #[sl, .int .i64 at_, bv] w (NN (scoreZ l zs at_) w) := by
  have hlen : l.length ≤ 1000 := by have := hz.len; omega
  have HBU := Lib.hid (bundle_any sl bv l at_ zs w hsl hbv hat hlen)
  obtain ⟨R, hR⟩ : ∃ R, R = scoreZ l zs at_ := ⟨_, rfl⟩
  have HSU := Lib.hid (show ∀ (v : Value) (wx : World), Below w.heap.size w wx → NatRow w.heap.size wx v (bundL l at_ fun k => zs.contains (natI k)) → Calls Try.prog 22 #[sl, v] wx (NN R wx) from fun v wx hb hv => by
    rw [hR]
    exact msum_any sl v l _ wx (hsl.below hb) (hv.ints (bund_small hlen)) hz (fun i hi => (mem_bundL.1 hi).1) (by have := bund_len l at_ (fun k => zs.contains (natI k)); have := hz.len; omega))
  rw [← hR]
  obtain ⟨a, c, rfl, hl1, hl2⟩ := hsl.shape
  obtain ⟨a', c', rfl, -, -⟩ := SlAt.shape hbv
  rw [maxLen_eq] at hl2
  obtain ⟨n, hn⟩ : ∃ n, n = l.length := ⟨_, rfl⟩
  obtain ⟨m, hm⟩ : ∃ m, m = zs.length := ⟨_, rfl⟩
  rw [← hn] at hl1 hat HBU HSU ⊢
  rw [← hm] at HBU ⊢
  have h1 : ¬ ((at_ : Int) < 0) := by omega
  have h2 : ¬ ((n : Int) ≤ (at_ : Int)) := by omega
  clear hn hm hsl hbv hz hlen hR
  go_enter Try.func9, Try.ntmps9
  go_wp2_with fail
  refine HBU.out.mono ?_
  rintro e w1 ⟨v, rfl, hv, hb⟩
  have HS := Lib.hid (HSU.out v w1 hb hv)
  have HB := Lib.hid hb
  clear hv hb
  go_wp2_with fail
  refine HS.out.mono ?_
  rintro e w2 ⟨rfl, hxc⟩
  have HB2 := Lib.hid (HB.out.trans (hxc.mono HB.out.size))
  clear hxc
  go_wp2_with fail
  go_ret2
  exact ⟨rfl, HB2.out⟩
theorem score_out (sl bv : Value) (l : List PE) (at_ : Int) (w : World) (hsl : SlAt rpE w sl l) (hat : at_ < 0 ∨ (l.length : Int) ≤ at_) :
    Calls Try.prog 9 #[sl, .int .i64 at_, bv] w (fun e w' => e = .returned (.tuple #[.int .i64 0, .int .i64 0]) ∧ w = w') := by
  obtain ⟨a, c, rfl, hl1, hl2⟩ := hsl.shape
  rw [maxLen_eq] at hl2
  obtain ⟨n, hn⟩ : ∃ n, n = l.length := ⟨_, rfl⟩
  rw [← hn] at hl1 hat ⊢
  clear hn hsl
  by_cases h1 : at_ < 0
  · go_enter Try.func9, Try.ntmps9
    go_wp2_with fail
    go_ret2
    exact ⟨rfl, rfl⟩
  · have h2 : (n : Int) ≤ at_ := by omega
    go_enter Try.func9, Try.ntmps9
    go_wp2_with fail
    go_ret2
    exact ⟨rfl, rfl⟩

/-! ### best -/
def atI (o : Option Nat) : Int := match o with | none => -1 | some i => (i : Int)
theorem atI_neg (o : Option Nat) : atI o < 0 ↔ o = none := by
  cases o with
  | none => exact ⟨fun _ => rfl, fun _ => by decide⟩
  | some i => exact ⟨fun h => by unfold atI at h; dsimp only at h; omega, fun h => by cases h⟩
set_option maxRecDepth 100000 in
set_option maxHeartbeats 4000000 in
theorem best_any (sl tv pv : Value) (l : List PE) (s : TS) (w : World) (hsl : SlAt rpE w sl l) (htv : IntsAt w tv (s.taken.map natI)) (hpv : IntsAt w pv (s.passed.map natI)) (hz : Sized l) :
    Calls Try.prog 24 #[sl, tv, pv] w (fun e w' => e = .returned (.int .i64 (atI (bestOf l s).at_)) ∧ Below w.heap.size w w') := by
  have HSC := Lib.hid (fun (k : Nat) (hk : k < l.length) (wx : World) (hb : Below w.heap.size w wx) => scoreZ_nat l s.taken k ▸ score_any sl tv l k _ wx (hsl.below hb) (htv.below hb) hz hk)
  have HCT := Lib.hid (fun (k : Nat) (wx : World) (hb : Below w.heap.size w wx) => nat_contains s.taken k ▸ cont_any tv _ (natI k) wx (htv.below hb))
  have HCP := Lib.hid (fun (k : Nat) (wx : World) (hb : Below w.heap.size w wx) => nat_contains s.passed k ▸ cont_any pv _ (natI k) wx (hpv.below hb))
  obtain ⟨a, c, rfl, hl1, hl2⟩ := hsl.shape
  obtain ⟨a1, c1, rfl, -, -⟩ := SlAt.shape htv
  obtain ⟨a2, c2, rfl, -, -⟩ := SlAt.shape hpv
  rw [maxLen_eq] at hl2
  have hlen : l.length ≤ 1000 := by have := hz.len; omega
  unfold bestOf
  obtain ⟨n, hn⟩ : ∃ n, n = l.length := ⟨_, rfl⟩
  obtain ⟨m1, hm1⟩ : ∃ m, m = (s.taken.map natI).length := ⟨_, rfl⟩
  obtain ⟨m2, hm2⟩ : ∃ m, m = (s.passed.map natI).length := ⟨_, rfl⟩
  rw [← hn] at hl1 hlen HSC ⊢
  rw [← hm1] at HSC HCT ⊢
  rw [← hm2] at HCP ⊢
  clear hn hm1 hm2 hsl htv hpv hz
  obtain ⟨sc, hsc⟩ : ∃ sc, sc = scoreOf l s.taken := ⟨_, rfl⟩
  rw [← hsc] at HSC ⊢
  clear hsc
  go_enter Try.func24, Try.ntmps24
  go_wp2_with fail
  go_loopg [7, 8, 9, 15] n (fun g va vf vs i wr => ∃ (k : Nat) (b : Bst), g = n - k ∧ k ≤ n ∧ i = .int .i64 k ∧ va = .int .i64 (atI b.at_) ∧ vf = .int .i64 b.fee ∧ vs = .int .i64 b.size ∧ b = bestL sc (skipOf s) k ∧ Below w.heap.size w wr)
  case atStart => exact ⟨0, ⟨none, 0, 0⟩, rfl, by omega, rfl, rfl, rfl, rfl, rfl, Below.refl _ _⟩
  case round =>
    rename World => wo
    obtain ⟨k, b, hgk, hk, rfl, rfl, rfl, rfl, hbb, hb⟩ := hrel
    have HGK := Lib.hid hgk
    have HB := Lib.hid hb
    have HBB := Lib.hid hbb
    clear hgk hb hbb
    by_cases hlt : k < n
    · obtain ⟨t1, ht1⟩ : ∃ t, t = s.taken.contains k := ⟨_, rfl⟩
      obtain ⟨t2, ht2⟩ : ∃ t, t = s.passed.contains k := ⟨_, rfl⟩
      have HSK := Lib.hid (show skipOf s k = (t1 || t2) by unfold skipOf; rw [ht1, ht2])
      have HT := Lib.hid (show ∀ wy : World, Below wo.heap.size wo wy → Calls Try.prog 28 #[.slice a1 m1 c1, .int .i64 (k : Int)] wy (fun e w' => e = .returned (.bool t1) ∧ Below wy.heap.size wy w') from fun wy h =>
        (ht1 ▸ HCT.out k wy (HB.out.trans (h.mono HB.out.size))).mono fun e w' ⟨he, hw⟩ => ⟨he, hw ▸ Below.refl _ _⟩)
      have HP := Lib.hid (show ∀ wy : World, Below wo.heap.size wo wy → Calls Try.prog 28 #[.slice a2 m2 c2, .int .i64 (k : Int)] wy (fun e w' => e = .returned (.bool t2) ∧ Below wy.heap.size wy w') from fun wy h =>
        (ht2 ▸ HCP.out k wy (HB.out.trans (h.mono HB.out.size))).mono fun e w' ⟨he, hw⟩ => ⟨he, hw ▸ Below.refl _ _⟩)
      clear ht1 ht2
      go_upto_region 5 with fail
      obtain ⟨sk, hsk⟩ : ∃ sk, sk = (t1 || t2) := ⟨_, rfl⟩
      go_cut [25] (fun s wx => s = .bool sk ∧ Below wo.heap.size wo wx)
      case first =>
        cases t1
        · go_wp2_with fail
          refine (HT.out wo (Below.refl _ _)).mono ?_
          rintro e w1 ⟨rfl, hx1⟩
          have HX1 := Lib.hid hx1
          clear hx1
          go_wp2_with fail
          refine (HP.out w1 HX1.out).mono ?_
          rintro e w2 ⟨rfl, hx2⟩
          have HX2 := Lib.hid hx2
          clear hx2
          obtain rfl : sk = t2 := by rw [hsk]; rfl
          clear hsk
          go_wp2_with fail
          go_meet
          exact ⟨rfl, HX1.out.trans (HX2.out.mono HX1.out.size)⟩
        · go_wp2_with fail
          refine (HT.out wo (Below.refl _ _)).mono ?_
          rintro e w1 ⟨rfl, hx1⟩
          have HX1 := Lib.hid hx1
          clear hx1
          obtain rfl : sk = true := by rw [hsk]; rfl
          clear hsk
          go_wp2_with fail
          go_meet
          exact ⟨rfl, HX1.out⟩
      case rest =>
        obtain ⟨rfl, hxc⟩ := hcut
        rename World => w1
        have HB1 := Lib.hid (HB.out.trans (hxc.mono HB.out.size))
        have HSK := Lib.hid (HSK.out.trans hsk.symm)
        clear hxc hsk HT HP
        cases sk
        · have hsc := HSC.out k hlt w1 HB1.out
          have HST := Lib.hid (best_succ sc (skipOf s) k)
          have HSN := Lib.hid (show bStep sc (skipOf s) b k = if b.at_ = none ∨ 0 < cmpR (sc k).1 (sc k).2 b.fee b.size then ⟨some k, (sc k).1, (sc k).2⟩ else b by unfold bStep; rw [HSK.out, if_neg (by decide)])
          obtain ⟨p, hp⟩ : ∃ p, p = sc k := ⟨_, rfl⟩
          rw [← hp] at hsc
          obtain ⟨pf, ps⟩ := p
          have HPP := Lib.hid hp
          have HSCK := Lib.hid hsc
          clear hp hsc
          go_wp2_with fail
          refine HSCK.out.mono ?_
          rintro e w2 ⟨rfl, hxc⟩
          have HB2 := Lib.hid (HB1.out.trans (hxc.mono HB1.out.size))
          clear hxc HSCK
          dsimp only
          obtain ⟨ba, bf, bs⟩ := b
          cases ba with
          | none =>
            have HNX := Lib.hid (show (⟨some k, pf, ps⟩ : Bst) = bestL sc (skipOf s) (k + 1) by rw [HST.out, ← HBB.out, HSN.out, if_pos (.inl rfl), ← HPP.out])
            have hat : atI none = -1 := rfl
            simp only [hat]
            go_wp2_with fail
            go_roundg (n - (k + 1))
            case measure => have := HGK.out; omega
            case rel => exact ⟨k + 1, _, rfl, by omega, by go_num, rfl, rfl, rfl, HNX.out, HB2.out⟩
          | some q =>
            have hat : atI (some q) = (q : Int) := rfl
            have hq : ¬ ((q : Int) < 0) := by omega
            simp only [hat]
            go_wp2_with fail
            refine (compare_any pf ps bf bs w2).mono ?_
            rintro e w3 ⟨rfl, hxc⟩
            have HB3 := Lib.hid (HB2.out.trans (hxc.mono HB2.out.size))
            clear hxc
            obtain ⟨cm, hcm⟩ : ∃ cm, cm = cmpR pf ps bf bs := ⟨_, rfl⟩
            rw [← hcm]
            have HCM := Lib.hid hcm
            clear hcm
            by_cases h0 : 0 < cm
            · have HNX := Lib.hid (show (⟨some k, pf, ps⟩ : Bst) = bestL sc (skipOf s) (k + 1) by rw [HST.out, ← HBB.out, HSN.out, if_pos (.inr (by rw [← HPP.out, ← HCM.out]; exact h0)), ← HPP.out])
              go_wp2_with fail
              go_roundg (n - (k + 1))
              case measure => have := HGK.out; omega
              case rel => exact ⟨k + 1, _, rfl, by omega, by go_num, rfl, rfl, rfl, HNX.out, HB3.out⟩
            · have HNX := Lib.hid (show (⟨some q, bf, bs⟩ : Bst) = bestL sc (skipOf s) (k + 1) by rw [HST.out, ← HBB.out, HSN.out, if_neg (by rintro (h | h); cases h; rw [← HPP.out, ← HCM.out] at h; exact h0 h)])
              go_wp2_with fail
              go_roundg (n - (k + 1))
              case measure => have := HGK.out; omega
              case rel => exact ⟨k + 1, _, rfl, by omega, by go_num, rfl, rfl, rfl, HNX.out, HB3.out⟩
        · have HNX := Lib.hid (show b = bestL sc (skipOf s) (k + 1) by rw [best_succ, ← HBB.out]; unfold bStep; rw [if_pos HSK.out])
          go_wp2_with fail
          go_roundg (n - (k + 1))
          case measure => have := HGK.out; omega
          case rel => exact ⟨k + 1, b, rfl, by omega, by go_num, rfl, rfl, rfl, HNX.out, HB1.out⟩
    · obtain rfl : k = n := by omega
      go_wp2_with fail
      go_ret
      exact ⟨by rw [HBB.out] <;> rfl, HB.out⟩
end Go.Proofs.Ytfkcldaogfengaa
end

section
/-
  miner.Template: parts: lists of places that grow, copies in rows of the call's own. Conditions: none beyond each theorem's own.
-/
namespace Go.Proofs.Ytfkcldaogfengaa
open Go.RowKit Go.BigFrame Go.Sort Go.Shelf
set_option linter.unusedVariables false
set_option linter.unusedSimpArgs false

/-! ### transactions, one behind the other -/
def rpTx : Rp PTx := ⟨4, fun w cs t => ∃ va vb, cs = [.int .u32 t.ver, va, vb, .int .u32 t.lock] ∧ SlAt rpIn w va t.ins ∧ SlAt rpOut w vb t.outs ∧ t.ver < 4294967296 ∧ t.lock < 4294967296,
  fun hw ⟨va, vb, h1, h2, h3, h4⟩ => ⟨va, vb, h1, h2.mono hw, h3.mono hw, h4⟩⟩
theorem SlAt.txs {w : World} {a : Option Addr} {n c i : Nat} {xs : List PTx} (h : SlAt rpTx w (.slice a n c) xs) (hi : i < n) : ∃ (b o : Nat) (t : PTx) (ia : Option Addr) (ni ic : Nat) (oa : Option Addr) (no oc : Nat), a = some ⟨b, o, none⟩ ∧ xs[i]? = some t ∧
    TxAt w (.agg #[.int .u32 t.ver, .slice ia ni ic, .slice oa no oc, .int .u32 t.lock]) t ∧
    w.cell? ⟨b, o + i * 4, none⟩ = some (.int .u32 t.ver) ∧ w.cell? ⟨b, o + i * 4 + 1, none⟩ = some (.slice ia ni ic) ∧ w.cell? ⟨b, o + i * 4 + 2, none⟩ = some (.slice oa no oc) ∧ w.cell? ⟨b, o + i * 4 + 3, none⟩ = some (.int .u32 t.lock) := by
  obtain ⟨b, o, x, cs, h1, h2, h3, h4, va, vb, h5, h6, h7, h8, h9⟩ := h.at hi
  subst h5
  obtain ⟨ia, ic, rfl, -, -⟩ := h6.shape
  obtain ⟨oa, oc, rfl, -, -⟩ := h7.shape
  exact ⟨b, o, x, ia, _, ic, oa, _, oc, h1, h2, ⟨_, _, rfl, h6, h7, h8, h9⟩, h4 0 _ rfl, h4 1 _ rfl, h4 2 _ rfl, h4 3 _ rfl⟩
theorem TxAt.shape5 {w : World} {v : Value} {t : PTx} (h : TxAt w v t) : ∃ i1 i2 o1 o2, v = .agg #[.int .u32 t.ver, .slice i1 t.ins.length i2, .slice o1 t.outs.length o2, .int .u32 t.lock] := by
  obtain ⟨va, vo, rfl, hia, hoa, -, -⟩ := h
  obtain ⟨i1, i2, rfl, -, -⟩ := hia.shape
  obtain ⟨o1, o2, rfl, -, -⟩ := hoa.shape
  exact ⟨i1, i2, o1, o2, rfl⟩
abbrev TxV := PTx × Value × Value
def txRow (p : TxV) : List Value := [.int .u32 p.1.ver, p.2.1, p.2.2, .int .u32 p.1.lock]
theorem txRow_len (p : TxV) : (txRow p).length = 4 := rfl
def txAgg (p : TxV) : Value := .agg #[.int .u32 p.1.ver, p.2.1, p.2.2, .int .u32 p.1.lock]
/-- It stays, whatever is done to the block of the row v. -/
def TxFar (w : World) (v : Value) (p : TxV) : Prop := ∀ wx : World, (∀ b, some b ≠ v.ownBlock → b < w.heap.size → wx.heap[b]? = w.heap[b]?) → TxAt wx (txAgg p) p.1
structure TxsOwn (base : Nat) (w : World) (v : Value) (ps : List TxV) : Prop where
  row : w.ownsRow base 41 4 v ps.length (ps.flatMap txRow)
  far : ∀ p ∈ ps, TxFar w v p
theorem TxsOwn.nil (base : Nat) (w : World) : TxsOwn base w (.slice none 0 0) [] := ⟨World.ownsRow_nil _ _ _ _, fun p hp => by simp at hp⟩
theorem TxsOwn.below {base : Nat} {w w' : World} {v : Value} {ps : List TxV} (h : TxsOwn base w v ps) (hb : Below w.heap.size w w') : TxsOwn base w' v ps :=
  ⟨ownsRow_below h.row hb, fun p hp wx hk => h.far p hp wx fun b hne hlt => (hk b hne (Nat.lt_of_lt_of_le hlt hb.size)).trans (hb.block b hlt)⟩
theorem TxsOwn.sl {base : Nat} {w : World} {v : Value} {ps : List TxV} (h : TxsOwn base w v ps) : SlAt rpTx w v (ps.map (·.1)) := by
  obtain ⟨a, c, e, h1, h2⟩ := ownsRow_shape h.row
  subst e
  refine ⟨a, c, by rw [List.length_map], by rw [List.length_map]; exact h1, h2, fun i x hi => ?_⟩
  rw [List.getElem?_map] at hi
  obtain ⟨p, hp, rfl⟩ := Option.map_eq_some_iff.1 hi
  have hil : i < ps.length := (List.getElem?_eq_some_iff.1 hp).1
  obtain ⟨b, rfl, hb, hb2⟩ := ownsRow_some h.row (by omega)
  obtain ⟨va, vb, e, g1, g2, g3, g4⟩ := h.far p (List.mem_of_getElem? hp) w fun _ _ _ => rfl
  unfold txAgg at e
  obtain ⟨rfl, rfl⟩ : p.2.1 = va ∧ p.2.2 = vb := by simpa using e
  refine ⟨b, 0, txRow p, rfl, rfl, fun j u hj => ?_, p.2.1, p.2.2, rfl, g1, g2, g3, g4⟩
  have hj4 : j < 4 := (List.getElem?_eq_some_iff.1 hj).1
  have := h.row.cells (g := b) rfl (i * 4 + j) u (by rw [flat_at txRow 4 txRow_len ps i p hp j hj4]; exact hj)
  rw [Addr.add_lit] at this
  simpa [rpTx] using this
theorem info_tx4 : (Try.prog.info? 41).map (fun i => (i.zero, i.size, i.bytes)) = some (some (.agg #[.int .u32 0, .slice none 0 0, .slice none 0 0, .int .u32 0]), 4, 64) := by kernel_rfl
theorem TxsOwn.app {base b2 : Nat} {w : World} {v va vb : Value} {ps : List TxV} {t : PTx} (h : TxsOwn base w v ps) (ht : TxOwn b2 w (.agg #[.int .u32 t.ver, va, vb, .int .u32 t.lock]) t) (h1 : va.oneCell' = true) (h2 : vb.oneCell' = true) (hown : ∀ b, v.ownBlock = some b → b < b2) (hn : ps.length < 1000000) (hb : base ≤ w.heap.size) :
    ∃ a' c' w', (Builtin.append_ #[33, 33] 33 #[v, .slice (some ⟨w.heap.size, 0, none⟩) 1 1]).run Try.prog (w.alloc (.cells #[.int .u32 t.ver, va, vb, .int .u32 t.lock] 41)) = .ok (.slice a' (ps.length + 1) c') w' ∧
      TxsOwn base w' (.slice a' (ps.length + 1) c') (ps ++ [(t, va, vb)]) ∧ Below base w w' := by
  obtain ⟨i0, hi, hz0, hz1, hz2⟩ := info_parts info_tx4
  obtain ⟨a2, c2, w2, hrun, hown2, hb2, hg2, hv2⟩ := append_one (P := Try.prog) Try.underlying33 hi hz0 hz1 hz2 rfl h.row #[.int .u32 t.ver, va, vb, .int .u32 t.lock] rfl (by intro u hu; simp only [List.mem_cons, List.not_mem_nil, or_false] at hu; rcases hu with rfl | rfl | rfl | rfl; rfl; exact h1; exact h2; rfl) (by rw [maxLen_eq]; omega) (by omega) hb (ty := 33)
  have keep : ∀ (wx : World), (∀ b, some b ≠ (Value.slice a2 (ps.length + 1) c2).ownBlock → b < w2.heap.size → wx.heap[b]? = w2.heap[b]?) → ∀ b, some b ≠ v.ownBlock → b < w.heap.size → wx.heap[b]? = w.heap[b]? := by
    intro wx hk b hne hlt
    have hs := hg2.size
    simp at hs
    rw [hk b (by
      rcases hv2 with e | e
      · rw [e]; exact hne
      · rw [e]; intro e2; injection e2; omega) (by omega), hg2.block b (by simp; omega) hne]
    exact Below.heap_alloc w _ b hlt
  refine ⟨a2, c2, w2, hrun, ⟨?_, fun p hp wx hk => ?_⟩, hb2⟩
  · rw [List.length_append, List.flatMap_append]
    simpa [txRow] using hown2
  · have hk2 := keep wx hk
    rcases List.mem_append.1 hp with hp | hp
    · exact h.far p hp wx hk2
    · rw [List.mem_singleton.1 hp]
      obtain ⟨⟨vi, vo, qs, e, hq, g1, g2, g3⟩, g4, g5⟩ := ht
      have k1 := g1.kept (w' := wx) fun b hb => hk2 b (fun e2 => by have := hown b e2.symm; have := (g1.lt hb).1; omega) (g1.lt hb).2
      have k2 := g2.kept (w' := wx) fun b hb => hk2 b (fun e2 => by have := hown b e2.symm; have := (g2.row.lt b hb).1; omega) (g2.row.lt b hb).2
      exact ⟨vi, vo, e, hq ▸ k1.sl, k2.sl, g4, g5⟩

/-! ### the state of Template -/
structure MT (w : World) (P : Nat) (vt vp : Value) (s : TS) (wr : World) : Prop where
  bel : Below w.heap.size w wr
  pw : P = w.heap.size
  box : wr.heap[P]? = some (.cells #[vp] 23 (0, 0))
  tk : NatRow (P + 1) wr vt s.taken
  ps : NatRow (P + 1) wr vp s.passed
  apart : ∀ b, vt.ownBlock = some b → vp.ownBlock ≠ some b
theorem MT.below {w wr w' : World} {P : Nat} {vt vp : Value} {s : TS} (h : MT w P vt vp s wr) (hb : Below wr.heap.size wr w') : MT w P vt vp s w' :=
  ⟨h.bel.trans (hb.mono h.bel.size), h.pw, stay h.box hb, h.tk.below hb, h.ps.below hb, h.apart⟩
/-- 'passed = append(passed, at)'. -/
theorem MT.pass {w wr : World} {P : Nat} {vt vp : Value} {s : TS} (h : MT w P vt vp s wr) (j : Nat) (hn : s.passed.length < 1000000) :
    ∃ a' c' wd, (Builtin.append_ #[23, 23] 23 #[vp, .slice (some ⟨wr.heap.size, 0, none⟩) 1 1]).run Try.prog (wr.alloc (.cells #[.int .i64 (j : Int)] 3)) = .ok (.slice a' (s.passed.length + 1) c') wd ∧
      wd.heap[P]? = some (.cells #[vp] 23 (0, 0)) ∧ MT w P vt (.slice a' (s.passed.length + 1) c') ⟨s.taken, s.passed ++ [j], s.most⟩ (wd.setCell ⟨P, 0, none⟩ (.slice a' (s.passed.length + 1) c')) := by
  obtain ⟨i0, hi, hz0, hz1, hz2⟩ := info_parts info_int
  have hx := lt_of h.box
  have hpw := h.pw
  obtain ⟨a2, c2, w2, hrun, hown2, hb2, hg2, hv2⟩ := append_one (P := Try.prog) Try.underlying23 hi hz0 hz1 hz2 rfl h.ps #[.int .i64 (j : Int)] rfl (by simp [Value.oneCell']) (by rw [maxLen_eq]; omega) (by omega) (by omega) (ty := 23)
  have keep : ∀ b, b < wr.heap.size → some b ≠ vp.ownBlock → w2.heap[b]? = wr.heap[b]? := fun b hb hne => by
    rw [hg2.block b (by simp; omega) hne]; exact Below.heap_alloc wr _ b hb
  have hbox : w2.heap[P]? = some (.cells #[vp] 23 (0, 0)) := (keep P hx (fun e => by have := (h.ps.lt P e.symm).1; omega)).trans h.box
  have q1 := heap_setCell_at (j := 0) (u := .slice a2 (s.passed.length + 1) c2) hbox
  have other : ∀ b, b ≠ P → (w2.setCell ⟨P, 0, none⟩ (.slice a2 (s.passed.length + 1) c2)).heap[b]? = w2.heap[b]? := fun b hb => Below.heap_setCell _ _ _ _ hb
  have hbel2 : Below w.heap.size w w2 := h.bel.trans (hb2.mono (by omega))
  refine ⟨a2, c2, w2, hrun, hbox, hbel2.trans ((Below.refl _ _).setCell (p := ⟨P, 0, none⟩) (show w.heap.size ≤ P by omega) _), hpw, q1, ?_, ?_, fun b hb e => ?_⟩
  · refine ownsRow_of_block h.tk fun b hb => ?_
    have hl := h.tk.lt b hb
    rw [other b (by omega)]
    exact keep b hl.2 (fun e => h.apart b hb e.symm)
  · unfold NatRow
    dsimp only
    rw [List.length_append, List.map_append, List.map_append]
    refine ownsRow_of_block (w := w2) (by exact hown2) fun b hb => other b (by have := (hown2.lt b hb).1; omega)
  · rcases hv2 with e2 | e2
    · rw [e2] at e; exact h.apart b hb e
    · rw [e2] at e
      injection e with e
      have := (h.tk.lt b hb).2
      omega
/-- 'taken = append(taken, some...)'. -/
theorem MT.take {w wr : World} {P g n c : Nat} {vt vp : Value} {s : TS} {qs : List Nat} {m : Int} (h : MT w P vt vp s wr) (hn : s.taken.length + qs.length < 1000000) (hq : wr.ownsRow 0 3 1 (.slice (some ⟨g, 0, none⟩) n c) n ((qs.map natI).map (Value.int .i64))) (hqn : n = qs.length) :
    ∃ a' c' wd, (Builtin.append_ #[23, 23] 23 #[vt, .slice (some ⟨g, 0, none⟩) n c]).run Try.prog wr = .ok (.slice a' (s.taken.length + n) c') wd ∧
      MT w P (.slice a' (s.taken.length + n) c') vp ⟨s.taken ++ qs, s.passed, m⟩ wd := by
  obtain ⟨i0, hi, hz0, hz1, hz2⟩ := info_parts info_int
  have hx := lt_of h.box
  have hpw := h.pw
  obtain ⟨v', w2, hrun, hown2, hg2, hv2⟩ := append_own_src (P := Try.prog) wr (P + 1) 23 23 23 3 i0 _ 1 8 Try.underlying23 hi hz0 hz1 hz2 rfl vt _ _ h.tk (.slice (some ⟨g, 0, none⟩) n c) n ((qs.map natI).map (Value.int .i64))
    (Src.ofSlice _ Try.underlying23 ⟨g, 0, none⟩ n c _ (by simp [hqn]) (fun j u hj => by
      have := hq.cells (g := g) rfl j u hj
      simpa [Addr.add_lit] using this) (fun u hu => by
      obtain ⟨z, -, rfl⟩ := List.mem_map.1 hu
      rfl)) (by rw [maxLen_eq]; omega) (by omega) (by omega)
  obtain ⟨a2, c2, rfl, -, -⟩ := ownsRow_shape hown2
  have keep : ∀ b, b < wr.heap.size → some b ≠ vt.ownBlock → w2.heap[b]? = wr.heap[b]? := fun b hb hne => hg2.block b hb hne
  refine ⟨a2, c2, w2, hrun, h.bel.grown hg2 h.bel.size (fun j hj => by have := (h.tk.lt j hj).1; omega), hpw, (keep P hx (fun e => by have := (h.tk.lt P e.symm).1; omega)).trans h.box, ?_, ?_, fun b hb e => ?_⟩
  · unfold NatRow
    dsimp only
    rw [List.length_append, List.map_append, List.map_append, ← hqn]
    exact hown2
  · exact ownsRow_of_block h.ps fun b hb => keep b (h.ps.lt b hb).2 (fun e => h.apart b e.symm hb)
  · rcases hv2 with e2 | e2
    · rw [e2] at hb; exact h.apart b hb e
    · rw [e2] at hb
      injection hb with hb
      have := (h.ps.lt b e).2
      omega
end Go.Proofs.Ytfkcldaogfengaa
end

section
/-
  Miner: the plain laws of MinerKeeps, MinerRises, MinerOrder. Conditions: entries of bounded fees and sizes.
-/
namespace Go.Proofs.Ytfkcldaogfengaa
open Go.RowKit
set_option linter.unusedVariables false
set_option linter.unusedSimpArgs false

/-! ### MinerKeeps -/
theorem keeps_size {l : List PE} {thr m0 : Int} (h0 : 0 ≤ m0) : (feeL l (tmplL l thr m0)).2 ≤ m0 := by
  have h := tEnd_ind (l := l) (thr := thr) (P := fun s => Inv l m0 s ∧ 0 ≤ s.most) (fun s s' ⟨h1, h2⟩ ht => ⟨h1.step ht, by
    obtain ⟨i, -, -, -, -, -, -, -, ⟨-, rfl⟩ | ⟨hb, rfl⟩⟩ := tStep_cases ht
    · exact h2
    · unfold badB at hb
      rw [Bool.or_eq_false_iff] at hb
      have := of_decide_eq_false hb.1
      dsimp only
      omega⟩) (Nat.le_refl _) (s := ⟨[], [], m0⟩) ⟨Inv.start l m0, h0⟩
  have e := h.1.1.sum
  have := h.1.2
  unfold tmplL
  omega
theorem tmplL_nodup (l : List PE) (thr m0 : Int) : (tmplL l thr m0).Nodup := (tEnd_inv l thr m0).1.nodup
theorem tmplL_lt (l : List PE) (thr m0 : Int) : ∀ i ∈ tmplL l thr m0, i < l.length := (tEnd_inv l thr m0).1.lt
theorem tmplL_shut (l : List PE) (thr m0 : Int) : ∀ i ∈ tmplL l thr m0, ∀ k, edge l i k = true → k ∈ tmplL l thr m0 := (tEnd_inv l thr m0).1.shut
theorem tmplL_len (l : List PE) (thr m0 : Int) : (tmplL l thr m0).length ≤ l.length := nodup_len (tmplL_nodup l thr m0) (tmplL_lt l thr m0)
theorem len_all {ps : List Nat} {n : Nat} (h : ps.Nodup) (hl : ∀ i ∈ ps, i < n) (ha : ∀ i, i < n → i ∈ ps) : ps.length = n := by
  have hp : ps.Perm (List.range n) := (List.perm_ext_iff_of_nodup h List.nodup_range).2 fun k => ⟨fun hk => List.mem_range.2 (hl k hk), fun hk => ha k (List.mem_range.1 hk)⟩
  rw [hp.length_eq, List.length_range]
theorem keeps_all {l : List PE} (hz : Sized l) : (tmplL l 0 1000000).length = l.length := by
  obtain ⟨h1, h2⟩ := tEnd_roomy 0 hz
  refine len_all h1.inv.nodup h1.inv.lt fun i hi => ?_
  rcases tStep_ends h2 with h3 | ⟨j, -, -, -, h3⟩
  · have := h3 i hi
    unfold skipOf at this
    rw [h1.none] at this
    show i ∈ (tEnd l 0 ⟨[], [], 1000000⟩).taken
    simpa using this
  · unfold lowB at h3
    simp at h3

/-! ### MinerRises -/
theorem low_mono {f s thr thr' : Int} (h : thr' ≤ thr) (hl : lowB f s thr' = true) : lowB f s thr = true := by
  unfold lowB at *
  rw [Bool.and_eq_true, decide_eq_true_eq, decide_eq_true_eq] at *
  obtain ⟨h1, h2⟩ := hl
  refine ⟨by omega, ?_⟩
  cases hp : pricedB f s with
  | false => rw [cmpR_bad (.inl hp)] at h2; exact absurd h2 (by decide)
  | true =>
    have q1 : pricedB (min thr' 2100000000000000) 1000 = true := by rw [priced_iff]; omega
    have q2 : pricedB (min thr 2100000000000000) 1000 = true := by rw [priced_iff]; omega
    rw [cmpR_neg hp q1] at h2
    rw [cmpR_neg hp q2]
    have hs := ((priced_iff _ _).1 hp).2.1
    have : min thr' 2100000000000000 * s ≤ min thr 2100000000000000 * s := Int.mul_le_mul_of_nonneg_right (by omega) (Int.le_of_lt hs)
    omega
theorem tStep_mono {l : List PE} {thr thr' : Int} {s s' : TS} (h : thr' ≤ thr) (ht : tStep l thr s = some s') : tStep l thr' s = some s' := by
  obtain ⟨i, hb, -, -, -, h5, h6, hlo, hc⟩ := tStep_cases ht
  have hlo' : lowB (scoreOf l s.taken i).1 (scoreOf l s.taken i).2 thr' = false := by
    cases hx : lowB (scoreOf l s.taken i).1 (scoreOf l s.taken i).2 thr' with
    | false => rfl
    | true => rw [low_mono h hx] at hlo; cases hlo
  unfold tStep
  rw [hb]
  dsimp only
  rw [h5, h6, hlo', if_neg (by decide)]
  rcases hc with ⟨hb, rfl⟩ | ⟨hb, rfl⟩
  · rw [if_pos hb]
  · rw [if_neg (by rw [hb]; decide)]
theorem tEnd_pre {l : List PE} {thr : Int} (s : TS) : s.taken <+: (tEnd l thr s).taken :=
  (tEnd_ind (l := l) (thr := thr) (P := fun s' => s.taken <+: s'.taken) (fun s1 s2 h1 ht => by
    obtain ⟨i, -, -, -, -, -, -, -, ⟨-, rfl⟩ | ⟨hb, rfl⟩⟩ := tStep_cases ht
    · exact h1
    · exact h1.trans (List.prefix_append _ _)) (Nat.le_refl _) (List.prefix_rfl)).1
theorem rises_prefix (l : List PE) {thr thr' m0 : Int} (h : thr' ≤ thr) : tmplL l thr m0 <+: tmplL l thr' m0 := by
  have e : tEnd l thr' (tEnd l thr ⟨[], [], m0⟩) = tEnd l thr' ⟨[], [], m0⟩ :=
    (tEnd_ind (l := l) (thr := thr) (P := fun s' => tEnd l thr' s' = tEnd l thr' ⟨[], [], m0⟩) (fun s1 s2 h1 ht => by
      rw [← h1]
      exact (tEnd_some (tStep_mono h ht)).symm) (Nat.le_refl _) rfl).1
  unfold tmplL
  rw [← e]
  exact tEnd_pre _
theorem low_le {p q : Int × Int} {thr : Int} (hp : pricedB p.1 p.2 = true) (hq : pricedB q.1 q.2 = true) (h : LeR p q) (hl : lowB q.1 q.2 thr = true) : lowB p.1 p.2 thr = true := by
  unfold lowB at *
  rw [Bool.and_eq_true, decide_eq_true_eq, decide_eq_true_eq] at *
  obtain ⟨h1, h2⟩ := hl
  refine ⟨h1, ?_⟩
  have q2 : pricedB (min thr 2100000000000000) 1000 = true := by rw [priced_iff]; omega
  rw [cmpR_neg hq q2] at h2
  rw [cmpR_neg hp q2]
  have p2 := ((priced_iff _ _).1 hp).2.1
  have s2 := ((priced_iff _ _).1 hq).2.1
  have h3 : LeR (min thr 2100000000000000, 1000) p → False := fun h4 => by
    have := LeR.trans (p := (min thr 2100000000000000, 1000)) (show (0 : Int) < 1000 by decide) p2 s2 h4 h
    unfold LeR at this
    dsimp only at this
    omega
  unfold LeR at h3
  dsimp only at h3
  exact Int.not_le.1 h3
theorem rises_low {l : List PE} {thr : Int} (hz : Sized l) {i : Nat} (hi : i < l.length) (hn : i ∉ tmplL l thr 1000000) : lowB (scoreOf l (tmplL l thr 1000000) i).1 (scoreOf l (tmplL l thr 1000000) i).2 thr = true := by
  obtain ⟨h1, h2⟩ := tEnd_roomy thr hz
  unfold tmplL at *
  generalize tEnd l thr ⟨[], [], 1000000⟩ = s at *
  have hsk : ∀ j, skipOf s j = s.taken.contains j := fun j => by unfold skipOf; rw [h1.none]; simp
  rcases tStep_ends h2 with h3 | ⟨b, hb, hbl, hbs, hlo⟩
  · have := h3 i hi
    rw [hsk] at this
    exact absurd (by simpa using this) hn
  · have hpr : ∀ j, j < l.length → skipOf s j = false → pricedB (scoreOf l s.taken j).1 (scoreOf l s.taken j).2 = true := fun j hj hs => score_priced hz hj (by rw [hsk] at hs; simpa using hs)
    have hmax := (best_max (sc := scoreOf l s.taken) (skip := skipOf s) hpr hb).1
    have his : skipOf s i = false := by rw [hsk]; simpa using hn
    exact low_le (hpr i hi his) (hpr b hbl hbs) (hmax i hi his) hlo

/-! ### MinerOrder -/
/-- One is to be ahead of the other: its rate is no less; if it is the same, it stands ahead. -/
def Ahead (l : List PE) (i j : Nat) : Prop := LeR (feeL l [j]) (feeL l [i]) ∧ (LeR (feeL l [i]) (feeL l [j]) → i < j)
theorem reach_lone {l : List PE} (hne : ∀ i k, edge l i k = false) {a k : Nat} (h : Reach l a k) : k = a := by
  cases h with
  | self => rfl
  | step _ h => rw [hne] at h; cases h
theorem bund_lone {l : List PE} (hne : ∀ i k, edge l i k = false) {i : Nat} (hi : i < l.length) {but : Nat → Bool} (hb : but i = false) : bundL l i but = [i] := by
  have hm : ∀ k, k ∈ bundL l i but ↔ k ∈ [i] := fun k => by
    rw [mem_bundL, List.mem_singleton]
    constructor
    · rintro ⟨-, h, -⟩; exact reach_lone hne h
    · rintro rfl; exact ⟨hi, .self, hb⟩
  have := (List.perm_ext_iff_of_nodup (bundL_nodup l i but) (by simp)).2 hm
  exact List.perm_singleton.1 this
theorem score_lone {l : List PE} (hne : ∀ i k, edge l i k = false) {i : Nat} (hi : i < l.length) {taken : List Nat} (ht : i ∉ taken) : scoreOf l taken i = feeL l [i] := by
  unfold scoreOf
  rw [bund_lone hne hi (by simpa using ht)]
structure Ord (l : List PE) (thr : Int) (s : TS) : Prop where
  roomy : Roomy l s
  pair : s.taken.Pairwise (Ahead l)
  rest : ∀ t ∈ s.taken, ∀ j, j < l.length → j ∉ s.taken → Ahead l t j
  high : ∀ t ∈ s.taken, lowB (feeL l [t]).1 (feeL l [t]).2 thr = false
theorem Ord.step {l : List PE} {thr : Int} {s s' : TS} (hz : Sized l) (hne : ∀ i k, edge l i k = false) (h : Ord l thr s) (ht : tStep l thr s = some s') : Ord l thr s' := by
  have hrm := h.roomy.step hz ht
  obtain ⟨b, hb, h1, h2, h3, -, -, h4, ⟨hbad, rfl⟩ | ⟨-, rfl⟩⟩ := tStep_cases ht
  · rw [h.roomy.fits hz b] at hbad; cases hbad
  have hsk : ∀ j, skipOf s j = s.taken.contains j := fun j => by unfold skipOf; rw [h.roomy.none]; simp
  have hpr : ∀ j, j < l.length → skipOf s j = false → pricedB (scoreOf l s.taken j).1 (scoreOf l s.taken j).2 = true := fun j hj hs => score_priced hz hj (by rw [hsk] at hs; simpa using hs)
  obtain ⟨m1, m2⟩ := best_max (sc := scoreOf l s.taken) (skip := skipOf s) hpr hb
  have e : someOf l s b = [b] := bund_lone hne h1 (by simpa using h2)
  rw [score_lone hne h1 h2] at h4
  have hah : ∀ j, j < l.length → j ∉ s.taken → j ≠ b → Ahead l b j := fun j hj hjt hjb => by
    have hjs : skipOf s j = false := by rw [hsk]; simpa using hjt
    have a1 := m1 j hj hjs
    rw [score_lone hne hj hjt, score_lone hne h1 h2] at a1
    refine ⟨a1, fun hle => ?_⟩
    rcases Nat.lt_or_ge j b with hlt | hge
    · have a2 := m2 j hlt hjs
      rw [score_lone hne hj hjt, score_lone hne h1 h2] at a2
      exact absurd hle a2
    · omega
  refine ⟨hrm, ?_, ?_, ?_⟩ <;> dsimp only <;> rw [e]
  · refine List.pairwise_append.2 ⟨h.pair, by simp, fun t ht' c hc => ?_⟩
    rw [List.mem_singleton.1 hc]
    exact h.rest t ht' b h1 h2
  · intro t ht' j hj hjn
    have hj2 : j ∉ s.taken ∧ j ≠ b := by simpa using hjn
    rcases List.mem_append.1 ht' with ht' | ht'
    · exact h.rest t ht' j hj hj2.1
    · rw [List.mem_singleton.1 ht']
      exact hah j hj hj2.1 hj2.2
  · intro t ht'
    rcases List.mem_append.1 ht' with ht' | ht'
    · exact h.high t ht'
    · rw [List.mem_singleton.1 ht']
      exact h4
theorem order_end {l : List PE} (thr : Int) (hz : Sized l) (hne : ∀ i k, edge l i k = false) : Ord l thr (tEnd l thr ⟨[], [], 1000000⟩) ∧ tStep l thr (tEnd l thr ⟨[], [], 1000000⟩) = none :=
  tEnd_ind (P := Ord l thr) (fun s s' h ht => h.step hz hne ht) (Nat.le_refl _) ⟨Roomy.start l, List.Pairwise.nil, fun t ht => by simp at ht, fun t ht => by simp at ht⟩
theorem order_pair {l : List PE} (thr : Int) (hz : Sized l) (hne : ∀ i k, edge l i k = false) : (tmplL l thr 1000000).Pairwise (Ahead l) := (order_end thr hz hne).1.pair
theorem order_mem {l : List PE} {thr : Int} (hz : Sized l) (hne : ∀ i k, edge l i k = false) {i : Nat} (hi : i < l.length) : i ∈ tmplL l thr 1000000 ↔ lowB (feeL l [i]).1 (feeL l [i]).2 thr = false := by
  constructor
  · exact (order_end thr hz hne).1.high i
  · intro h
    apply Classical.byContradiction
    intro hn
    have := rises_low (thr := thr) hz hi hn
    rw [score_lone hne hi hn, h] at this
    cases this
theorem order_len {l : List PE} {thr : Int} (hz : Sized l) (hne : ∀ i k, edge l i k = false) : (tmplL l thr 1000000).length = ((List.range l.length).filter fun i => !lowB (feeL l [i]).1 (feeL l [i]).2 thr).length := by
  refine List.Perm.length_eq ((List.perm_ext_iff_of_nodup (tmplL_nodup ..) (List.nodup_range.sublist List.filter_sublist)).2 fun i => ?_)
  rw [List.mem_filter, List.mem_range, Bool.not_eq_true']
  constructor
  · intro h
    have hi := tmplL_lt _ _ _ i h
    exact ⟨hi, (order_mem hz hne hi).1 h⟩
  · rintro ⟨hi, h⟩
    exact (order_mem hz hne hi).2 h
end Go.Proofs.Ytfkcldaogfengaa
end

section
/-
  miner.Template: the walk. Conditions: the entries, of bounded fees and sizes, lie in memory.
-/
namespace Go.Proofs.Ytfkcldaogfengaa
open Go.RowKit Go.BigFrame Go.Sort Go.Shelf
set_option linter.unusedVariables false
set_option linter.unusedSimpArgs false

theorem tmpl1_any (zs : List Int) (v : Value) (X : Nat) (x : Int) (W : World) (hX : W.heap[X]? = some (.cells #[v] 23 (0, 0))) (hv : IntsAt W v zs) :
    Calls Try.prog 27 #[.int .i64 x, .pointer (some ⟨X, 0, none⟩)] W fun e w' => e = .returned (.bool (zs.contains x)) ∧ W = w' := by
  obtain ⟨ct, hct⟩ : ∃ ct, ct = zs.contains x := ⟨_, rfl⟩
  have hcc := cont_any v zs x W hv
  rw [← hct] at hcc ⊢
  have HC := Lib.hid hcc
  clear hct hcc
  obtain ⟨a, c, rfl, -, -⟩ := SlAt.shape hv
  have c0 : W.cell? ⟨X, 0, none⟩ = some (.slice a zs.length c) := cell_at hX
  clear hX hv
  generalize zs.length = n at *
  go_enter Try.func27, Try.ntmps27
  go_wp2_with fail
  refine HC.out.mono ?_
  rintro e w' ⟨rfl, rfl⟩
  go_wp2_with fail
  go_ret
  exact ⟨rfl, rfl⟩
theorem mcf_any (v pv : Value) (qs ps : List Nat) (X : Nat) (w : World) (hX : w.heap[X]? = some (.cells #[pv] 23 (0, 0))) (hp : IntsAt w pv (ps.map natI)) (hv : IntsAt w v (qs.map natI)) :
    Calls Try.prog 26 #[v, .func (.func 27) #[] #[.pointer (some ⟨X, 0, none⟩)]] w (fun e w' => e = .returned (.bool (qs.any fun k => ps.contains k)) ∧ Below w.heap.size w w') := by
  obtain ⟨a, c, rfl, h1, h2⟩ := SlAt.shape hv
  rw [maxLen_eq] at h2
  cases hq : qs with
  | nil => exact (Try.slices_ContainsFunc_empty (α := Int) a c _ w).mono fun e w' ⟨h, h'⟩ => ⟨h, h' ▸ Below.refl _ _⟩
  | cons z r =>
    rw [← hq]
    have hl : (qs.map natI).length = qs.length := List.length_map ..
    have h0 : 0 < (qs.map natI).length := by rw [hl, hq]; simp
    obtain ⟨b, o, y, rfl, -, -⟩ := IntsAt.cell hv h0
    refine (Try.slices_ContainsFunc encZ (fun x => (ps.map natI).contains x) 27 #[.pointer (some ⟨X, 0, none⟩)] (enters_of Try.func27 (by kernel_rfl) rfl) b o (qs.map natI).length c (qs.map natI) w
      (fun W x hB => (tmpl1_any _ pv X x W (stay hX hB) (hp.below hB)).mono fun e w' ⟨he, hw⟩ => ⟨he, 0, hw.symm⟩) (Nat.le_refl _) (by omega) fun j hj => ?_).mono fun e w' ⟨h, q, h'⟩ => ⟨?_, h' ▸ below_drewN' (Below.refl _ _) q⟩
    · obtain ⟨b', o', y', e1, e2, e3⟩ := IntsAt.cell hv hj
      obtain ⟨rfl, rfl⟩ : b = b' ∧ o = o' := by simpa using e1
      rw [e3, getElem!_pos _ j hj]
      rw [List.getElem?_eq_getElem hj] at e2
      rw [Option.some.inj e2]
    · rw [h, List.take_length, List.any_map]
      congr 3
      funext k
      exact nat_contains ps k
noncomputable def txI (l : List PE) (i : Nat) : PTx := match l[i]? with | some x => x.tx | none => ⟨0, [], [], 0⟩
theorem txI_at {l : List PE} {i : Nat} {x : PE} (h : l[i]? = some x) : txI l i = x.tx := by unfold txI; rw [h]
/-- Entries of which the parts are few. -/
def Few (l : List PE) : Prop := ∀ x ∈ l, x.tx.ins.length ≤ 1000 ∧ x.tx.outs.length ≤ 1000 ∧ ∀ i ∈ x.tx.ins, i.wit.length ≤ 1000
def TmplP (l : List PE) (ps : List Nat) (w : World) (e : Ending) (w' : World) : Prop := ∃ v, e = .returned v ∧ SlAt rpTx w' v (ps.map (txI l)) ∧ Below w.heap.size w w'
/-- What is kept from round to round. -/
structure TInv (l : List PE) (thr m0 : Int) (s : TS) : Prop where
  inv : Inv l m0 s
  plt : ∀ i ∈ s.passed, i < l.length
  pnd : s.passed.Nodup
  most : -9223372036854775808 ≤ s.most ∧ s.most ≤ m0
  run : tEnd l thr s = tEnd l thr ⟨[], [], m0⟩
theorem TInv.step {l : List PE} {thr m0 : Int} {s s' : TS} (hz : Sized l) (h : TInv l thr m0 s) (ht : tStep l thr s = some s') : TInv l thr m0 s' := by
  have hinv := h.inv.step ht
  have hrun := (tEnd_some ht).symm.trans h.run
  obtain ⟨i, hb, h1, h2, h3, h5, h6, hlo, ⟨hbad, rfl⟩ | ⟨hbad, rfl⟩⟩ := tStep_cases ht
  · refine ⟨hinv, fun k hk => ?_, ?_, h.most, hrun⟩
    · rcases List.mem_append.1 hk with hk | hk
      · exact h.plt k hk
      · rw [List.mem_singleton.1 hk]; exact h1
    · exact List.nodup_append.2 ⟨h.pnd, by simp, fun b hbm c hc => by rw [List.mem_singleton.1 hc]; rintro rfl; exact h3 hbm⟩
  · refine ⟨hinv, h.plt, h.pnd, ?_, hrun⟩
    unfold badB at hbad
    rw [Bool.or_eq_false_iff] at hbad
    have h7 := of_decide_eq_false hbad.1
    have h8 := (feeL_bd hz (ps := someOf l s i) fun k hk => (mem_bundL.1 hk).1).2.2.1
    have h9 : (scoreOf l s.taken i).2 = (feeL l (someOf l s i)).2 := rfl
    have := h.most
    dsimp only
    omega
set_option maxRecDepth 100000 in
set_option maxHeartbeats 4000000 in
theorem template_any (sl : Value) (l : List PE) (thr m0 : Int) (w : World) (hsl : SlAt rpE w sl l) (hz : Sized l) (hf : Few l) (hthr : -9223372036854775808 ≤ thr ∧ thr ≤ 9223372036854775807) (hm0 : -9223372036854775808 ≤ m0 ∧ m0 ≤ 9223372036854775807) :
    Calls Try.prog 13 #[sl, .int .i64 thr, .int .i64 m0] w (TmplP l (tmplL l thr m0) w) := by
  have HSL := Lib.hid hsl
  have HZ := Lib.hid hz
  have HF := Lib.hid hf
  have HM0 := Lib.hid hm0
  have HTHR := Lib.hid hthr
  obtain ⟨a, c, rfl, hl1, hl2⟩ := hsl.shape
  rw [maxLen_eq] at hl2
  obtain ⟨n, hn⟩ : ∃ n, n = l.length := ⟨_, rfl⟩
  have hn12 : n ≤ 12 := by rw [hn]; exact hz.len
  rw [← hn] at hl1 HSL ⊢
  have HN := Lib.hid hn
  clear hn hsl hz hf hm0 hthr
  go_enter Try.func13, Try.ntmps13
  go_upto_block 0 with fail
  have hz := heap_alloc_new w (.cells #[.slice none 0 0] 23)
  have hal : Below w.heap.size w (w.alloc (.cells #[.slice none 0 0] 23)) := (Below.refl _ _).alloc (Nat.le_refl _) _
  obtain ⟨P, hP⟩ : ∃ q, q = w.heap.size := ⟨_, rfl⟩
  rw [← hP] at hz ⊢
  generalize w.alloc (.cells #[.slice none 0 0] 23) = w0 at *
  have HST := Lib.hid (show MT w P (.slice none 0 0) (.slice none 0 0) ⟨[], [], m0⟩ w0 from ⟨hal, hP, hz, NatRow.nil _ _, NatRow.nil _ _, fun b hb => by cases hb⟩)
  clear hz hal hP
  go_cut [7] (fun v wx => ∃ a7 c7, v = .slice a7 (tmplL l thr m0).length c7 ∧ NatRow (w.heap.size + 1) wx v (tmplL l thr m0) ∧ Below w.heap.size w wx)
  case first =>
    go_wp2_with fail
    go_loopg [7, 2] (leftS n ⟨[], [], m0⟩) (fun g vt mo wr => ∃ (s : TS) (ta pa : Option Addr) (tc pc : Nat), g = leftS n s ∧ vt = .slice ta s.taken.length tc ∧ mo = .int .i64 s.most ∧ MT w P vt (.slice pa s.passed.length pc) s wr ∧ TInv l thr m0 s)
    case atStart => exact ⟨⟨[], [], m0⟩, none, none, 0, 0, rfl, rfl, rfl, HST.out, ⟨Inv.start l m0, fun i hi => by simp at hi, List.nodup_nil, ⟨HM0.out.1, Int.le_refl _⟩, rfl⟩⟩
    case round =>
      clear HST
      rename World => wo
      obtain ⟨s, ta, pa, tc, pc, hg, rfl, rfl, hst, hti⟩ := hrel
      have HG := Lib.hid hg
      have HST := Lib.hid hst
      have HTI := Lib.hid hti
      clear hg hst hti
      have hsm1 : ∀ k ∈ s.taken, k < 4611686018427387904 := fun k hk => by have := HTI.out.inv.lt k hk; have := HN.out; omega
      have hsm2 : ∀ k ∈ s.passed, k < 4611686018427387904 := fun k hk => by have := HTI.out.plt k hk; have := HN.out; omega
      have HTL := Lib.hid (show s.taken.length ≤ n ∧ s.passed.length ≤ n by have h1 := nodup_len HTI.out.inv.nodup HTI.out.inv.lt; have h2 := nodup_len HTI.out.pnd HTI.out.plt; have := HN.out; omega)
      have HITK := Lib.hid (HST.out.tk.ints hsm1)
      have HIPS := Lib.hid (HST.out.ps.ints hsm2)
      have HBE := Lib.hid (best_any _ _ _ l s wo (HSL.out.below HST.out.bel) HITK.out HIPS.out HZ.out)
      have p0 : wo.cell? ⟨P, 0, none⟩ = some (.slice pa s.passed.length pc) := cell_at HST.out.box
      clear hsm1 hsm2
      obtain ⟨tl, htl⟩ : ∃ tl, tl = s.taken.length := ⟨_, rfl⟩
      obtain ⟨pl, hpl⟩ : ∃ pl, pl = s.passed.length := ⟨_, rfl⟩
      obtain ⟨mo, hmo⟩ : ∃ mo, mo = s.most := ⟨_, rfl⟩
      rw [← htl] at HST HTL HITK HBE ⊢
      rw [← hpl] at HST HTL HIPS HBE p0
      rw [← hmo]
      have HTLE := Lib.hid htl
      have HPLE := Lib.hid hpl
      have HMOE := Lib.hid hmo
      clear htl hpl hmo
      obtain ⟨bo, hbo⟩ : ∃ bo, bo = (bestOf l s).at_ := ⟨_, rfl⟩
      rw [← hbo] at HBE
      have HBO := Lib.hid hbo
      clear hbo
      go_wp2_with fail
      refine HBE.out.mono ?_
      rintro e w1 ⟨rfl, hxc⟩
      have HST := Lib.hid (HST.out.below hxc)
      have HITK := Lib.hid (HITK.out.below hxc)
      have HIPS := Lib.hid (HIPS.out.below hxc)
      clear hxc p0 HBE
      cases bo with
      | none =>
        have hat : atI none = -1 := rfl
        simp only [hat]
        have HEND := Lib.hid (show tmplL l thr m0 = s.taken by
          unfold tmplL
          rw [← HTI.out.run, tEnd_none (by unfold tStep; rw [← HBO.out])])
        go_wp2_with fail
        go_meet
        refine ⟨ta, tc, by rw [HEND.out, ← HTLE.out], ?_, HST.out.bel⟩
        rw [HEND.out, ← HST.out.pw]
        exact HST.out.tk
      | some i =>
        have hat : atI (some i) = (i : Int) := rfl
        have hq : ¬ ((i : Int) < 0) := by omega
        simp only [hat]
        obtain ⟨hi1, hi2, hi3, hi4⟩ := best_some (sc := scoreOf l s.taken) (skip := skipOf s) (n := l.length) HBO.out.symm
        have HI := Lib.hid hi1
        have HFE := Lib.hid (show (bestOf l s).fee = (scoreOf l s.taken i).1 from hi3)
        have HSE := Lib.hid (show (bestOf l s).size = (scoreOf l s.taken i).2 from hi4)
        have hbu := bundle_any _ _ l i (s.taken.map natI) w1 (HSL.out.below HST.out.bel) HITK.out hi1 (by have := HN.out; omega)
        have hqs : (bundL l i fun k => (s.taken.map natI).contains (natI k)) = someOf l s i := by
          unfold someOf
          congr 1
          funext k
          exact nat_contains s.taken k
        have HBU := Lib.hid hbu
        clear hi1 hi2 hi3 hi4 hbu
        go_wp2_with fail
        refine HBU.out.mono ?_
        rintro e w2 ⟨v, rfl, hv, hxc⟩
        rw [hqs] at hv
        have HST := Lib.hid (HST.out.below hxc)
        have HIPS := Lib.hid (HIPS.out.below hxc)
        have hqlt : ∀ k ∈ someOf l s i, k < l.length := fun k hk => (mem_bundL.1 hk).1
        have hqnd : (someOf l s i).length ≤ l.length := bund_len _ _ _
        have HQSELF := Lib.hid (show 0 < (someOf l s i).length by
          obtain ⟨g1, g2, -⟩ := best_some (sc := scoreOf l s.taken) (skip := skipOf s) (n := l.length) HBO.out.symm
          exact List.length_pos_of_mem (some_self g1 (skip_not g2).1))
        have HSC := Lib.hid (show scoreOf l s.taken i = feeL l (someOf l s i) from rfl)
        have HTS := Lib.hid (show tStep l thr s = if lowB (scoreOf l s.taken i).1 (scoreOf l s.taken i).2 thr = true then none else if badB s (scoreOf l s.taken i).2 (someOf l s i) = true then some ⟨s.taken, s.passed ++ [i], s.most⟩ else some ⟨s.taken ++ someOf l s i, s.passed, s.most - (scoreOf l s.taken i).2⟩ by
          unfold tStep
          rw [← HBO.out]
          dsimp only
          rw [HFE.out, HSE.out])
        obtain ⟨qs, hqse⟩ : ∃ qs, qs = someOf l s i := ⟨_, rfl⟩
        rw [← hqse] at hv hqlt hqnd HQSELF HSC HTS
        obtain ⟨va, vc, rfl, -, -⟩ := ownsRow_shape hv
        have hsm : ∀ k ∈ qs, k < 4611686018427387904 := fun k hk => by have := hqlt k hk; have := HN.out; omega
        have HIQ := Lib.hid (hv.ints hsm)
        have HV := Lib.hid hv
        have hsu := msum_any _ _ l qs w2 (HSL.out.below HST.out.bel) HIQ.out HZ.out hqlt (by have := HN.out; omega)
        have hbd := feeL_bd HZ.out hqlt
        rw [← HSC.out] at hsu hbd
        obtain ⟨sc, hsc⟩ : ∃ sc, sc = scoreOf l s.taken i := ⟨_, rfl⟩
        rw [← hsc] at hsu hbd HTS
        obtain ⟨fe, si⟩ := sc
        dsimp only at hbd HTS
        have HSU := Lib.hid hsu
        have HBD := Lib.hid (show 0 ≤ si ∧ si ≤ 24000 by have := HN.out; omega)
        have HQL := Lib.hid (show qs.length ≤ n by have := HN.out; omega)
        clear hqs hqlt hqnd hsm hv hsu hbd hsc hqse hxc HBU HSC HFE HSE
        obtain ⟨ql, hql⟩ : ∃ ql, ql = qs.length := ⟨_, rfl⟩
        rw [← hql] at HQSELF HIQ HV HSU HQL ⊢
        have HQLE := Lib.hid hql
        clear hql
        go_wp2_with fail
        refine HSU.out.mono ?_
        rintro e w3 ⟨rfl, hxc⟩
        have HST := Lib.hid (HST.out.below hxc)
        have HIPS := Lib.hid (HIPS.out.below hxc)
        have HIQ := Lib.hid (HIQ.out.below hxc)
        have HV := Lib.hid (HV.out.below hxc)
        clear hxc HSU
        dsimp only
        obtain ⟨lo, hlo⟩ : ∃ lo, lo = lowB fe si thr := ⟨_, rfl⟩
        rw [← hlo] at HTS
        have HLO := Lib.hid hlo
        clear hlo
        go_upto_region 6 with fail
        go_cut [41] (fun v wx => v = .bool lo ∧ Below w3.heap.size w3 wx)
        case first =>
          by_cases h0 : 0 < thr
          · go_wp2_with fail
            refine (compare_any fe si (min thr 2100000000000000) 1000 w3).mono ?_
            rintro e w4 ⟨rfl, hxc⟩
            have hlo2 : lo = decide (cmpR fe si (min thr 2100000000000000) 1000 < 0) := by rw [HLO.out]; unfold lowB; rw [decide_eq_true h0]; rfl
            obtain ⟨cm, hcm⟩ : ∃ cm, cm = cmpR fe si (min thr 2100000000000000) 1000 := ⟨_, rfl⟩
            rw [← hcm] at hlo2 ⊢
            have HXC := Lib.hid hxc
            clear hcm hxc
            by_cases hc : cm < 0
            · obtain rfl : lo = true := by rw [hlo2, decide_eq_true hc]
              clear hlo2
              go_wp2_with fail
              go_meet
              exact ⟨rfl, HXC.out⟩
            · obtain rfl : lo = false := by rw [hlo2, decide_eq_false hc]
              clear hlo2
              go_wp2_with fail
              go_meet
              exact ⟨by rw [decide_eq_false (by omega)], HXC.out⟩
          · obtain rfl : lo = false := by rw [HLO.out]; unfold lowB; rw [decide_eq_false h0]; rfl
            go_wp2_with fail
            go_meet
            exact ⟨rfl, Below.refl _ _⟩
        case rest =>
        obtain ⟨rfl, hxc⟩ := hcut
        rename World => w4
        have HST := Lib.hid (HST.out.below hxc)
        have HIPS := Lib.hid (HIPS.out.below hxc)
        have HIQ := Lib.hid (HIQ.out.below hxc)
        have HV := Lib.hid (HV.out.below hxc)
        clear hxc
        cases lo
        rotate_left
        · have HEND := Lib.hid (show tmplL l thr m0 = s.taken by
            unfold tmplL
            rw [← HTI.out.run, tEnd_none (by rw [HTS.out, if_pos rfl])])
          go_wp2_with fail
          go_meet
          refine ⟨ta, tc, by rw [HEND.out, ← HTLE.out], ?_, HST.out.bel⟩
          rw [HEND.out, ← HST.out.pw]
          exact HST.out.tk
        obtain ⟨bd, hbd⟩ : ∃ bd, bd = badB s si qs := ⟨_, rfl⟩
        have hts := HTS.out
        rw [← hbd, if_neg (by decide)] at hts
        have HTS := Lib.hid hts
        have HBDE := Lib.hid hbd
        clear hbd hts
        go_upto_region 7 with fail
        go_cut [49] (fun v wx => v = .bool bd ∧ Below w4.heap.size w4 wx)
        case first =>
          by_cases h0 : mo < si
          · obtain rfl : bd = true := by rw [HBDE.out]; unfold badB; rw [← HMOE.out, decide_eq_true h0]; rfl
            go_wp2_with fail
            go_meet
            exact ⟨rfl, Below.refl _ _⟩
          · have hbd2 : bd = qs.any fun k => s.passed.contains k := by rw [HBDE.out]; unfold badB; rw [← HMOE.out, decide_eq_false h0]; rfl
            have hcf := mcf_any _ _ qs s.passed P w4 HST.out.box HIPS.out HIQ.out
            rw [← hbd2] at hcf
            have HCF := Lib.hid hcf
            clear hcf hbd2
            go_wp2_with fail
            refine HCF.out.mono ?_
            rintro e w5 ⟨rfl, hxc⟩
            have HXC := Lib.hid hxc
            clear hxc
            go_wp2_with fail
            go_meet
            exact ⟨rfl, HXC.out⟩
        case rest =>
        obtain ⟨rfl, hxc⟩ := hcut
        rename World => w5
        have HST := Lib.hid (HST.out.below hxc)
        have HV := Lib.hid (HV.out.below hxc)
        clear hxc HIPS HIQ
        cases bd
        · have hts := HTS.out
          rw [if_neg (by decide)] at hts
          have HTT := Lib.hid (HTI.out.step HZ.out hts)
          have HLF := Lib.hid (tStep_left hts)
          have hmsi : si ≤ mo := by
            have h := HBDE.out.symm
            unfold badB at h
            rw [Bool.or_eq_false_iff, ← HMOE.out] at h
            have := of_decide_eq_false h.1
            omega
          have hmb := HTI.out.most
          rw [← HMOE.out] at hmb
          have hvr : w5.ownsRow 0 3 1 (.slice va ql vc) ql ((qs.map natI).map (Value.int .i64)) := by
            have h : w5.ownsRow 0 3 1 (.slice va ql vc) qs.length ((qs.map natI).map (Value.int .i64)) := ownsRow_base HV.out (Nat.zero_le _)
            rw [← HQLE.out] at h
            exact h
          obtain ⟨g, rfl, -, -⟩ := ownsRow_some hvr (by have := HQSELF.out; omega)
          obtain ⟨a8, c8, wd, hrun, hst8⟩ := HST.out.take (m := s.most - si) (by have := HTL.out; have := HTLE.out; have := HQL.out; have := HQLE.out; omega) hvr HQLE.out
          rw [← HTLE.out] at hrun hst8
          have HR := Lib.hid hrun
          have HST8 := Lib.hid hst8
          have E : IntKind.i64.wrap (mo - si) = mo - si := by rw [IntKind.wrap_i64]; have := HBD.out; have := HM0.out; omega
          clear hts hmsi hmb hvr hrun hst8 HV HST HTS
          go_wp2_with (at_builtin; refine wpList_append_run rfl (.tmp 54) (.tmp 55) 23 23 rfl rfl rfl HR.out ?_)
          go_roundg (leftS n ⟨s.taken ++ qs, s.passed, s.most - si⟩)
          case measure => have := HLF.out; have := HG.out; have := HN.out; simp only [← HN.out] at *; omega
          case rel => exact ⟨⟨s.taken ++ qs, s.passed, s.most - si⟩, a8, pa, c8, pc, rfl, by rw [List.length_append, ← HTLE.out, ← HQLE.out], by rw [HMOE.out], by have h := HST8.out; rw [HPLE.out] at h; exact h, HTT.out⟩
        · have hts := HTS.out
          rw [if_pos rfl] at hts
          have HTT := Lib.hid (HTI.out.step HZ.out hts)
          have HLF := Lib.hid (tStep_left hts)
          obtain ⟨a8, c8, wd, hrun, hbox8, hst8⟩ := HST.out.pass i (by have := HTL.out; have := HPLE.out; omega)
          rw [← HPLE.out] at hrun hst8
          have HR := Lib.hid hrun
          have HST8 := Lib.hid hst8
          have p0 : w5.cell? ⟨P, 0, none⟩ = some (.slice pa pl pc) := cell_at HST.out.box
          have p1 : wd.cell? ⟨P, 0, none⟩ = some (.slice pa pl pc) := cell_at hbox8
          have f1 : wd.frozen? ⟨P, 0, none⟩ = false := free_at hbox8
          clear hts hrun hst8 hbox8 HV HST HTS
          go_wp2_with (at_builtin; refine wpList_append_run rfl (.tmp 50) (.tmp 52) 23 23 rfl rfl rfl HR.out ?_)
          go_roundg (leftS n ⟨s.taken, s.passed ++ [i], s.most⟩)
          case measure => have := HLF.out; have := HG.out; have := HN.out; simp only [← HN.out] at *; omega
          case rel => exact ⟨⟨s.taken, s.passed ++ [i], s.most⟩, ta, a8, tc, c8, rfl, by rw [HTLE.out], by rw [HMOE.out], by rw [List.length_append, ← HPLE.out]; exact HST8.out, HTT.out⟩
  case rest =>
    obtain ⟨a7, c7, rfl, hrow, hb⟩ := hcut
    rename World => w1
    have hTlt := tmplL_lt l thr m0
    obtain ⟨T, hT⟩ : ∃ T, T = tmplL l thr m0 := ⟨_, rfl⟩
    rw [← hT] at hrow hTlt ⊢
    have HIT := Lib.hid (hrow.ints fun k hk => by have := hTlt k hk; have := HN.out; omega)
    have HTLT := Lib.hid hTlt
    have htn := tmplL_len l thr m0
    rw [← hT, ← HN.out] at htn
    have HB := Lib.hid hb
    obtain ⟨m, hm⟩ : ∃ m, m = T.length := ⟨_, rfl⟩
    have hit := HIT.out
    rw [← hm] at htn hit ⊢
    have HIT := Lib.hid hit
    have HM := Lib.hid hm
    have HTEQ := Lib.hid hT
    clear hT hTlt hrow hb hm hit
    go_wp2_with fail
    go_loopg [13, 62] m (fun g v i wr => ∃ (k : Nat) (ps : List TxV) (va : Option Addr) (vc : Nat), g = m - k ∧ k ≤ m ∧ i = .int .i64 k ∧ v = .slice va ps.length vc ∧ TxsOwn w1.heap.size wr v ps ∧ ps.map (·.1) = (T.take k).map (txI l) ∧ Below w1.heap.size w1 wr)
    case atStart => exact ⟨0, [], none, 0, rfl, by omega, rfl, rfl, TxsOwn.nil _ _, by simp, Below.refl _ _⟩
    case round =>
      rename World => wo
      obtain ⟨k, ps, va, vc, hg, hk, rfl, rfl, hps, hpe, hbo⟩ := hrel
      have HG := Lib.hid hg
      have HPS := Lib.hid hps
      have HPE := Lib.hid hpe
      have HBO := Lib.hid hbo
      have HPL := Lib.hid (show ps.length = k by
        have h := congrArg List.length hpe
        rw [List.length_map, List.length_map, List.length_take] at h
        have := HM.out
        omega)
      clear hg hps hpe hbo
      by_cases hlt : k < m
      · obtain ⟨vb, vo, y, rfl, hy, d⟩ := IntsAt.cell (HIT.out.below HBO.out) hlt
        rw [List.getElem?_map] at hy
        obtain ⟨i, hi, rfl⟩ := Option.map_eq_some_iff.1 hy
        have hin : i < n := by rw [HN.out]; exact HTLT.out i (List.mem_of_getElem? hi)
        unfold natI at d
        obtain ⟨sb, so, x, ia, ni, ic, oa, no, oc, rfl, hx, hxe, -, d0, d1, d2, d3, -, -, -⟩ := (HSL.out.below (HB.out.trans (HBO.out.mono HB.out.size))).ent hin
        have hfw := HF.out x (List.mem_of_getElem? hx)
        have HCP := Lib.hid (copy_any _ x.tx wo hxe.tx hfw.1 hfw.2.1 hfw.2.2)
        have HTK := Lib.hid (show T.take (k + 1) = T.take k ++ [i] from take_snoc hi)
        have HTX := Lib.hid (txI_at hx)
        obtain ⟨pl, hpl⟩ : ∃ pl, pl = ps.length := ⟨_, rfl⟩
        rw [← hpl] at HPS HPL ⊢
        have HPLE := Lib.hid hpl
        clear hy hi hx hxe hfw hpl
        go_wp2_with fail
        refine HCP.out.mono ?_
        rintro e w2 ⟨v, rfl, hto, hxc⟩
        obtain ⟨i1, i2, o1, o2, hsh⟩ := TxAt.shape5 hto.tx
        subst hsh
        have HPS2 := Lib.hid (HPS.out.below hxc)
        obtain ⟨a8, c8, wd, hrun, hps8, hb8⟩ := HPS2.out.app hto rfl rfl (fun b hb => by have h := (HPS.out.row.lt b hb).2; exact h) (by have := HPL.out; have := HPLE.out; omega) (by have := hxc.size; have := HBO.out.size; omega)
        have HBO2 := Lib.hid ((HBO.out.trans (hxc.mono HBO.out.size)).trans (hb8))
        rw [← HPLE.out] at hrun hps8
        have HR := Lib.hid hrun
        have HPS8 := Lib.hid hps8
        clear hto hxc hrun hps8 hb8 d d0 d1 d2 d3 HCP
        go_wp2_with (at_builtin; refine wpList_append_run rfl (.tmp 66) (.tmp 73) 33 33 rfl rfl rfl HR.out ?_)
        go_roundg (m - (k + 1))
        case measure => have := HG.out; omega
        case rel => exact ⟨k + 1, _, a8, c8, rfl, by omega, by go_num, by rw [List.length_append, ← HPLE.out]; rfl, HPS8.out, by rw [List.map_append, HPE.out, HTK.out, List.map_append]; simp [HTX.out], HBO2.out⟩
      · obtain rfl : k = m := by omega
        have HFIN := Lib.hid (show ps.map (·.1) = T.map (txI l) by rw [HPE.out, HM.out, List.take_length])
        go_wp2_with fail
        go_ret
        exact ⟨_, rfl, by rw [← HTEQ.out, ← HFIN.out]; exact HPS.out.sl, HB.out.trans (HBO.out.mono HB.out.size)⟩
end Go.Proofs.Ytfkcldaogfengaa
end

section
/-
  What the entries of a script are, as plain data. Conditions: none beyond each theorem's own.
-/
namespace Go.Proofs.Ytfkcldaogfengaa
open Go.RowKit Go.BigFrame
set_option linter.unusedVariables false
set_option linter.unusedSimpArgs false

def feeOf (f : Int) : Int := bits .and .i64 f 1073741823
def normZ (z : PSm) : PSm := { z with long := z.long % 8, fee := feeOf z.fee }
noncomputable def listS (l : List PE) (z : PSm) : List PE := addL l (makeT l (normZ z)) (feeOf z.fee)
noncomputable def listL (zs : List PSm) : List PE := zs.foldl listS []
theorem list_next {zs : List PSm} {k : Nat} {z : PSm} (hz : zs[k]? = some z) : listL (zs.take (k + 1)) = listS (listL (zs.take k)) z := by
  unfold listL
  rw [take_snoc hz, List.foldl_append]
  rfl
theorem addL_len (l : List PE) (t : PTx) (fee : Int) : (addL l t fee).length ≤ l.length + 1 := by
  unfold addL
  repeat' split
  all_goals simp
theorem listL_len (zs : List PSm) : (listL zs).length ≤ zs.length := by
  have h : ∀ (zs : List PSm) (l : List PE), (zs.foldl listS l).length ≤ l.length + zs.length := by
    intro zs
    induction zs with
    | nil => intro l; simp
    | cons z r ih =>
      intro l
      have h1 := ih (listS l z)
      have h2 := addL_len l (makeT l (normZ z)) (feeOf z.fee)
      have h3 : (listS l z).length ≤ l.length + 1 := h2
      simp only [List.foldl_cons, List.length_cons]
      omega
  have := h zs []
  simpa [listL] using this
theorem normZ_ok {z : PSm} (h : z.Ok0) : (normZ z).Ok := ⟨h.from_, h.index, h.outs, h.mark, by show z.long % 8 < 8; omega⟩
theorem feeOf_le (f : Int) : 0 ≤ feeOf f ∧ feeOf f ≤ 1073741823 := by
  have h : (BitVec.ofInt 64 f &&& BitVec.ofInt 64 1073741823).toNat ≤ 1073741823 := by
    rw [BitVec.toNat_and]
    exact Nat.le_trans Nat.and_le_right (by decide)
  show 0 ≤ IntKind.i64.wrap (((BitVec.ofInt 64 f &&& BitVec.ofInt 64 1073741823).toNat : Nat) : Int) ∧ IntKind.i64.wrap (((BitVec.ofInt 64 f &&& BitVec.ofInt 64 1073741823).toNat : Nat) : Int) ≤ 1073741823
  rw [IntKind.wrap_i64]
  omega
/-- An entry that was made out of plain data. -/
structure GoodE (x : PE) : Prop where
  check : checkOf x.tx = 0
  id : x.id = tw (encL x.tx false)
  sizeIs : x.size = (weigh x.tx + 3) / 4
  size : 1 ≤ x.size ∧ x.size ≤ 2000
  fee : 0 ≤ x.fee ∧ x.fee ≤ 1073741823
  ins : x.tx.ins.length ≤ 4
  outs : x.tx.outs.length ≤ 10
  wit : ∀ i ∈ x.tx.ins, i.wit = []
  nums : x.tx.ver = 2 ∧ x.tx.lock < 256
structure Listed (l : List PE) : Prop where
  good : ∀ x ∈ l, GoodE x
  ids : (l.map (·.id)).Nodup
theorem makeT_ins (l : List PE) (z : PSm) : (makeT l z).ins.length ≤ 4 := by
  show ((List.range (min z.from_.length 4)).map (makeIn l z)).length ≤ 4
  rw [List.length_map, List.length_range]
  omega
theorem makeT_outs {l : List PE} {z : PSm} (h : z.long < 8) : (makeT l z).outs.length ≤ 10 := by
  show ((List.range (z.outs % 3 + 1)).map (fun i : Nat => (⟨1000 + (i : Int), scr9⟩ : POut)) ++ List.replicate z.long (⟨1000, ascii40⟩ : POut)).length ≤ 10
  rw [List.length_append, List.length_map, List.length_range, List.length_replicate]
  omega
theorem makeT_wit (l : List PE) (z : PSm) : ∀ i ∈ (makeT l z).ins, i.wit = [] := by
  intro i hi
  obtain ⟨k, -, rfl⟩ := List.mem_map.1 (show i ∈ (List.range (min z.from_.length 4)).map (makeIn l z) from hi)
  rfl
theorem enc_small {t : PTx} (he : Enc t) (hi : t.ins.length ≤ 4) (ho : t.outs.length ≤ 10) : (encL t false).length ≤ 900 ∧ 4 ≤ (encL t false).length := by
  have h1 := vintL_le t.ins.length
  have h2 := vintL_le t.outs.length
  have h3 := flat_le inB 60 t.ins fun x hx => inB_le (he.ids x hx).1
  have h4 := flat_le outB 60 t.outs fun x hx => outB_le (he.vals x hx).2
  unfold encL markL witsL
  simp only [List.length_append, leB_length, Bool.false_eq_true, if_false, List.length_nil]
  omega
theorem no_wit {t : PTx} (h : ∀ i ∈ t.ins, i.wit = []) : witOf t = false := by
  unfold witOf
  rw [List.any_eq_false]
  intro i hi
  rw [h i hi]
  decide
theorem newE_good {l : List PE} {z : PSm} {fee : Int} (hz : z.long < 8) (hm : z.mark < 256) (hc : checkOf (makeT l z) = 0) (hf : 0 ≤ fee ∧ fee ≤ 1073741823) : GoodE (newE (makeT l z) fee) := by
  have he := enc_small (enc_of (whole_of hc)) (makeT_ins l z) (makeT_outs hz)
  have hw : weigh (makeT l z) = 4 * ((encL (makeT l z) false).length : Int) := by
    unfold weigh
    rw [no_wit (makeT_wit l z)]
    omega
  refine ⟨hc, rfl, rfl, ?_, hf, makeT_ins l z, makeT_outs hz, makeT_wit l z, rfl, hm⟩
  show 1 ≤ (weigh (makeT l z) + 3) / 4 ∧ (weigh (makeT l z) + 3) / 4 ≤ 2000
  rw [hw]
  omega
theorem addL_listed {l : List PE} {z : PSm} {fee : Int} (h : Listed l) (hz : z.long < 8) (hm : z.mark < 256) (hf : 0 ≤ fee ∧ fee ≤ 1073741823) : Listed (addL l (makeT l z) fee) := by
  unfold addL
  split
  · exact h
  · rename_i hc
    split
    · exact h
    · split
      · exact h
      · split
        · exact h
        · rename_i hid
          split
          · exact h
          · have hc0 : checkOf (makeT l z) = 0 := Classical.byContradiction hc
            refine ⟨fun x hx => ?_, ?_⟩
            · rcases List.mem_append.1 hx with hx | hx
              · exact h.good x hx
              · rw [List.mem_singleton.1 hx]
                exact newE_good hz hm hc0 hf
            · rw [List.map_append]
              refine List.nodup_append.2 ⟨h.ids, by simp, fun a ha b hb e => hid ?_⟩
              simp only [List.map_cons, List.map_nil, List.mem_singleton] at hb
              subst hb
              subst e
              obtain ⟨x, hx, hxe⟩ := List.mem_map.1 ha
              exact List.any_eq_true.2 ⟨x, hx, decide_eq_true hxe⟩
theorem listL_listed {zs : List PSm} (hz : ∀ z ∈ zs, z.Ok0) : Listed (listL zs) := by
  have h : ∀ (zs : List PSm) (l : List PE), (∀ z ∈ zs, z.Ok0) → Listed l → Listed (zs.foldl listS l) := by
    intro zs
    induction zs with
    | nil => intro l _ hl; exact hl
    | cons z r ih =>
      intro l hz hl
      have hk := hz z (List.mem_cons_self ..)
      exact ih _ (fun y hy => hz y (List.mem_cons_of_mem _ hy)) (addL_listed hl (normZ_ok hk).long hk.mark (feeOf_le _))
  exact h zs [] hz ⟨fun x hx => by simp at hx, by simp⟩
theorem Listed.sized {l : List PE} (h : Listed l) (hn : l.length ≤ 12) : Sized l :=
  ⟨hn, fun x hx => by have := (h.good x hx).fee; omega, fun x hx => (h.good x hx).size⟩
theorem Listed.few {l : List PE} (h : Listed l) : Few l := fun x hx => by
  have g := h.good x hx
  refine ⟨by have := g.ins; omega, by have := g.outs; omega, fun i hi => ?_⟩
  rw [g.wit i hi]
  simp
theorem Listed.unlike {l : List PE} (h : Listed l) {i j : Nat} {x y : PE} (hi : l[i]? = some x) (hj : l[j]? = some y) (e : x.tx = y.tx) : i = j := by
  have hx := (h.good x (List.mem_of_getElem? hi)).id
  have hy := (h.good y (List.mem_of_getElem? hj)).id
  refine (List.getElem?_inj (l := l.map (·.id)) ?_ h.ids).1 ?_
  · rw [List.length_map]; exact (List.getElem?_eq_some_iff.1 hi).1
  · rw [List.getElem?_map, List.getElem?_map, hi, hj]
    show some x.id = some y.id
    rw [hx, hy, e]
end Go.Proofs.Ytfkcldaogfengaa
end
