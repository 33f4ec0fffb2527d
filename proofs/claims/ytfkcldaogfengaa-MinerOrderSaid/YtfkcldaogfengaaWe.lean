/-
  kedgeref06.Bytes. Conditions: those of Enc.
-/
import Derived.Test.YtfkcldaogfengaaWd
namespace Go.Proofs.Ytfkcldaogfengaa
open Go.RowKit Go.BigFrame
set_option linter.unusedVariables false
set_option linter.unusedSimpArgs false

def mkB (bare : Bool) (l : List PIn) : Bool := !bare && l.any fun x => decide (0 < x.wit.length)
theorem mkB_step (bare : Bool) {l : List PIn} {k : Nat} {x : PIn} (h : l[k]? = some x) : mkB bare (l.take (k + 1)) = (mkB bare (l.take k) || (!bare && decide (0 < x.wit.length))) := by
  unfold mkB
  rw [List.take_add_one, h]
  cases bare <;> simp
theorem vint_size (n : Nat) : (bL (vintL n)).size ≤ 9 := by rw [bL_size]; exact vintL_le n
theorem leb_size (n k : Nat) : (bL (leB n k)).size = k := by rw [bL_size, leB_length]
theorem str_app {s s' : ByteArray} {L M : List UInt8} (h : s = bL L) (h' : s' = bL M) : s ++ s' = bL (L ++ M) := by rw [h, h', bL_app]

set_option maxRecDepth 100000 in
set_option maxHeartbeats 2000000 in
theorem rbytes_any (v : Value) (t : PTx) (bare : Bool) (w : World) (hv : TxAt w v t) (he : Enc t) : Calls Try.prog 53 #[v, .bool bare] w (SIs (encL t (!bare && witOf t)) w) := by
  obtain ⟨va, vo, rfl, hia, hob, hver, hlock⟩ := hv
  obtain ⟨a, c, rfl, -, hl2⟩ := hia.shape
  obtain ⟨a', c', rfl, -, hl2'⟩ := hob.shape
  rw [maxLen_eq] at hl2 hl2'
  obtain ⟨n, hn⟩ : ∃ n, n = t.ins.length := ⟨_, rfl⟩
  obtain ⟨m, hm⟩ : ∃ n, n = t.outs.length := ⟨_, rfl⟩
  have htb := TB.start (t := t) hia hob
  rw [← hn, ← hm] at htb ⊢
  have HTB := Lib.hid htb
  have hn2 : n ≤ 256 := by rw [hn]; exact he.ins
  have hm2 : m ≤ 256 := by rw [hm]; exact he.outs
  have HN := Lib.hid (And.intro hn hm)
  have HE := Lib.hid he
  have hverI : (t.ver : Int) < 4294967296 := by omega
  have hlockI : (t.lock : Int) < 4294967296 := by omega
  clear htb hia hob hn hm he
  go_enter Try.func53, Try.ntmps53
  go_upto_region 1 with fail
  generalize w.alloc (.cells #[.int .u32 t.ver, .slice a n c, .slice a' m c', .int .u32 t.lock] 41) = w0 at *
  have c1 : w0.cell? ⟨w.heap.size, 1, none⟩ = some (.slice a n c) := cell_at HTB.out.box
  go_wp2_with fail
  go_loopg [5, 6] n (fun g vm vi wr => ∃ k : Nat, g = n - k ∧ k ≤ n ∧ vm = .bool (mkB bare (t.ins.take k)) ∧ vi = .int .i64 k ∧ TB w (.slice a n c) (.slice a' m c') t wr)
  case atStart => exact ⟨0, rfl, by omega, by simp [mkB], rfl, HTB.out⟩
  case round =>
    clear HTB c1
    rename World => wi
    obtain ⟨k, hgk, hk, rfl, rfl, htb⟩ := hrel
    have HGK := Lib.hid hgk
    have HTB := Lib.hid htb
    clear hgk htb
    have c1 : wi.cell? ⟨w.heap.size, 1, none⟩ = some (.slice a n c) := cell_at HTB.out.box
    by_cases hlt : k < n
    · obtain ⟨bb, o, x, wv, rfl, hx, hseq, hidx, hid, hwv, d0, d1, d2, d3⟩ := HTB.out.ins.inp hlt
      obtain ⟨xa, xc, rfl, -, hxm⟩ := hwv.shape
      rw [maxLen_eq] at hxm
      have hst := mkB_step bare hx
      have hlo : (0 : Int) ≤ (k : Int) := by omega
      clear hwv hid d0 d1 d2 hx
      generalize x.wit.length = xl at *
      generalize mkB bare (t.ins.take k) = mk at *
      have HST := Lib.hid hst
      clear hst
      cases mk
      · cases bare
        · by_cases h0 : xl = 0
          · subst h0
            go_wp2_with fail
            go_roundg (n - (k + 1))
            case measure => have := HGK.out; omega
            case rel => exact ⟨k + 1, rfl, by omega, by rw [HST.out]; rfl, by go_num, HTB.out⟩
          · have h1 : (0 : Int) < (xl : Int) := by omega
            go_wp2_with fail
            go_roundg (n - (k + 1))
            case measure => have := HGK.out; omega
            case rel => exact ⟨k + 1, rfl, by omega, by rw [HST.out]; simp, by go_num, HTB.out⟩
        · go_wp2_with fail
          go_roundg (n - (k + 1))
          case measure => have := HGK.out; omega
          case rel => exact ⟨k + 1, rfl, by omega, by rw [HST.out]; rfl, by go_num, HTB.out⟩
      · go_wp2_with fail
        go_roundg (n - (k + 1))
        case measure => have := HGK.out; omega
        case rel => exact ⟨k + 1, rfl, by omega, by rw [HST.out]; rfl, by go_num, HTB.out⟩
    · obtain rfl : k = n := by omega
      have hmm : mkB bare (t.ins.take k) = (!bare && witOf t) := by rw [HN.out.1, List.take_length]; rfl
      rw [hmm]
      generalize (!bare && witOf t) = mm at *
      clear hmm HGK hlt hk
      have c0 : wi.cell? ⟨w.heap.size, 0, none⟩ = some (.int .u32 t.ver) := cell_at HTB.out.box
      go_wp2_with fail
      refine (orput_any t.ver 4 (by omega) (.inr (.inr (.inl rfl))) wi).mono ?_
      rintro en w1 ⟨rfl, hb⟩
      have HTB := Lib.hid (HTB.out.next hb)
      have q1 := leb_size t.ver 4
      clear hb c0 c1
      go_upto_if 42 with fail
      go_cut [7] (fun vs wx => ∃ so, vs = .string so ∧ so = bL (leB t.ver 4 ++ markL mm) ∧ TB w (.slice a k c) (.slice a' m c') t wx)
      case first =>
        cases mm
        · go_wp2_with fail
          go_meet
          exact ⟨_, rfl, by simp [markL], HTB.out⟩
        · go_wp2_with fail
          go_meet
          exact ⟨_, rfl, str_app rfl rfl, HTB.out⟩
      case rest =>
        clear HTB q1
        rename World => wx
        obtain ⟨so, rfl, hso, htb⟩ := hcut
        have HTB := Lib.hid htb
        have hsz : so.size ≤ 20 := by rw [hso, bL_size, List.length_append, leB_length]; unfold markL; split <;> simp
        have HSO := Lib.hid hso
        clear htb hso
        have c1 : wx.cell? ⟨w.heap.size, 1, none⟩ = some (.slice a k c) := cell_at HTB.out.box
        go_wp2_with fail
        refine (rlength_any k (by omega) wx).mono ?_
        rintro en w2 ⟨rfl, hb⟩
        have HTB := Lib.hid (HTB.out.next hb)
        clear hb c1
        have q2 := vint_size k
        have HS2 := Lib.hid (show so ++ bL (vintL k) = bL (preB t mm 0) by rw [str_app HSO.out rfl, preB_zero, HN.out.1]; rfl)
        clear HSO
        go_wp2_with fail
        go_loopg [7, 9] k (fun g vs vi wr => ∃ (z : Nat) (so : ByteArray), g = k - z ∧ z ≤ k ∧ vs = .string so ∧ vi = .int .i64 z ∧ so = bL (preB t mm z) ∧ TB w (.slice a k c) (.slice a' m c') t wr)
        case atStart => exact ⟨0, _, rfl, by omega, rfl, rfl, HS2.out, HTB.out⟩
        case round =>
          clear HTB HS2 hsz q2
          rename World => wl
          obtain ⟨z, so, hgk, hz1, rfl, rfl, hso, htb⟩ := hrel
          have HGK := Lib.hid hgk
          have HTB := Lib.hid htb
          have hsz : so.size ≤ 20000 := by rw [hso, bL_size]; exact preB_le HE.out mm z
          have HSO := Lib.hid hso
          clear hgk htb hso
          have c1 : wl.cell? ⟨w.heap.size, 1, none⟩ = some (.slice a k c) := cell_at HTB.out.box
          by_cases hlt : z < k
          · obtain ⟨bb, o, x, wv, rfl, hx, hseq, hidx, hid, hwv, d0, d1, d2, d3⟩ := HTB.out.ins.inp hlt
            have hid32 : x.id.size = 32 := (HE.out.ids x (List.mem_of_getElem? hx)).1
            have HX := Lib.hid hx
            have hlo : (0 : Int) ≤ (z : Int) := by omega
            clear hx hid hwv d3
            go_wp2_with fail
            refine (orput_any x.idx 4 (by omega) (.inr (.inr (.inl rfl))) wl).mono ?_
            rintro en w3 ⟨rfl, hb⟩
            have HTB := Lib.hid (HTB.out.next hb)
            replace c1 := below_cells hb _ _ c1
            replace d0 := below_cells hb _ _ d0
            replace d1 := below_cells hb _ _ d1
            replace d2 := below_cells hb _ _ d2
            clear hb
            have q1 := leb_size x.idx 4
            go_wp2_with fail
            refine (orput_any x.seq 4 (by omega) (.inr (.inr (.inl rfl))) w3).mono ?_
            rintro en w4 ⟨rfl, hb⟩
            have HTB := Lib.hid (HTB.out.next hb)
            replace c1 := below_cells hb _ _ c1
            replace d0 := below_cells hb _ _ d0
            replace d1 := below_cells hb _ _ d1
            replace d2 := below_cells hb _ _ d2
            clear hb
            have q2 := leb_size x.seq 4
            have q3 : (⟨#[0]⟩ : ByteArray).size = 1 := rfl
            have HS2 := Lib.hid (show so ++ x.id ++ bL (leB x.idx 4) ++ ⟨#[0]⟩ ++ bL (leB x.seq 4) = bL (preB t mm (z + 1)) by rw [← preB_step t mm HX.out]; exact str_app (str_app (str_app (str_app HSO.out (bL_data _).symm) rfl) rfl) rfl)
            go_wp2_with fail
            go_roundg (k - (z + 1))
            case measure => have := HGK.out; omega
            case rel => exact ⟨z + 1, _, rfl, by omega, rfl, by go_num, HS2.out, HTB.out⟩
          · obtain rfl : z = k := by omega
            have c2 : wl.cell? ⟨w.heap.size, 2, none⟩ = some (.slice a' m c') := cell_at HTB.out.box
            go_wp2_with fail
            refine (rlength_any m (by omega) wl).mono ?_
            rintro en w2 ⟨rfl, hb⟩
            have HTB := Lib.hid (HTB.out.next hb)
            clear hb c2 c1 HGK
            have q2 := vint_size m
            have HS2 := Lib.hid (show so ++ bL (vintL m) = bL (preD t mm 0) by rw [str_app HSO.out rfl, preD_zero, ← preB_full, ← HN.out.1, ← HN.out.2])
            clear HSO
            go_wp2_with fail
            go_loopg [7, 12] m (fun g vs vi wr => ∃ (q : Nat) (so : ByteArray), g = m - q ∧ q ≤ m ∧ vs = .string so ∧ vi = .int .i64 q ∧ so = bL (preD t mm q) ∧ TB w (.slice a z c) (.slice a' m c') t wr)
            case atStart => exact ⟨0, _, rfl, by omega, rfl, rfl, HS2.out, HTB.out⟩
            case round =>
              clear HTB HS2 hsz q2
              rename World => wq
              obtain ⟨q, so, hgk, hq1, rfl, rfl, hso, htb⟩ := hrel
              have HGK := Lib.hid hgk
              have HTB := Lib.hid htb
              have hsz : so.size ≤ 40000 := by rw [hso, bL_size]; exact preD_le HE.out mm q
              have HSO := Lib.hid hso
              clear hgk htb hso
              have c2 : wq.cell? ⟨w.heap.size, 2, none⟩ = some (.slice a' m c') := cell_at HTB.out.box
              by_cases hlt : q < m
              · obtain ⟨bo, oo, x, rfl, hx, hok, d0, d1⟩ := HTB.out.outs.outp hlt
                have hv := HE.out.vals x (List.mem_of_getElem? hx)
                obtain ⟨vn, hvn⟩ : ∃ n : Nat, x.val = (n : Int) := ⟨x.val.toNat, by omega⟩
                rw [hvn] at d0
                have hvn2 : x.val.toNat = vn := by omega
                have hvb : vn ≤ 2100000000000000 := by omega
                have hss : x.script.size ≤ 40 := hv.2
                have HX := Lib.hid (And.intro hx hvn2)
                have hlo : (0 : Int) ≤ (q : Int) := by omega
                clear hx hok hv hvn hvn2
                have hv1 : (0 : Int) ≤ (vn : Int) := by omega
                have hv2 : (vn : Int) ≤ 2100000000000000 := by omega
                go_wp2_with fail
                refine (orput_any vn 8 (by omega) (.inr (.inr (.inr rfl))) wq).mono ?_
                rintro en w3 ⟨rfl, hb⟩
                have HTB := Lib.hid (HTB.out.next hb)
                replace c2 := below_cells hb _ _ c2
                replace d0 := below_cells hb _ _ d0
                replace d1 := below_cells hb _ _ d1
                clear hb
                have q1 := leb_size vn 8
                go_wp2_with fail
                refine (rlength_any x.script.size (by omega) w3).mono ?_
                rintro en w4 ⟨rfl, hb⟩
                have HTB := Lib.hid (HTB.out.next hb)
                replace c2 := below_cells hb _ _ c2
                replace d0 := below_cells hb _ _ d0
                replace d1 := below_cells hb _ _ d1
                clear hb
                have q2 := vint_size x.script.size
                have HS2 := Lib.hid (show so ++ bL (leB vn 8) ++ bL (vintL x.script.size) ++ x.script = bL (preD t mm (q + 1)) by rw [← preD_step t mm HX.out.1, HX.out.2, sizedL, ← List.append_assoc]; exact str_app (str_app (str_app HSO.out rfl) rfl) (bL_data _).symm)
                go_wp2_with fail
                go_roundg (m - (q + 1))
                case measure => have := HGK.out; omega
                case rel => exact ⟨q + 1, _, rfl, by omega, rfl, by go_num, HS2.out, HTB.out⟩
              · obtain rfl : q = m := by omega
                have HSO := Lib.hid (show so = bL (preF t mm 0) by rw [HSO.out, preF_zero, ← preD_full, ← HN.out.2])
                cases mm
                · have HSO := Lib.hid (show so = bL (preE t false) by rw [HSO.out, preF_zero])
                  go_wp2_with fail
                  go_loopg [7, 14] 0 (fun g vs vi wr => g = 0 ∧ vs = .string so ∧ vi = .int .i64 0 ∧ TB w (.slice a z c) (.slice a' q c') t wr)
                  case atStart => exact ⟨rfl, rfl, rfl, HTB.out⟩
                  case round =>
                    clear HTB c2 HGK
                    rename World => wy
                    obtain ⟨-, rfl, rfl, htb⟩ := hrel
                    have HTB := Lib.hid htb
                    clear htb
                    have c3 : wy.cell? ⟨w.heap.size, 3, none⟩ = some (.int .u32 t.lock) := cell_at HTB.out.box
                    go_wp2_with fail
                    refine (orput_any t.lock 4 (by omega) (.inr (.inr (.inl rfl))) wy).mono ?_
                    rintro en w3 ⟨rfl, hb⟩
                    have HB := Lib.hid ((HTB.out.next hb).bel)
                    clear hb c3
                    have q1 := leb_size t.lock 4
                    go_wp2_with fail
                    go_ret
                    exact ⟨by rw [str_app HSO.out rfl, preE_full]; rfl, HB.out⟩
                · go_wp2_with fail
                  go_loopg [7, 14] z (fun g vs vi wr => ∃ (y : Nat) (so : ByteArray), g = z - y ∧ y ≤ z ∧ vs = .string so ∧ vi = .int .i64 y ∧ so = bL (preF t true y) ∧ TB w (.slice a z c) (.slice a' q c') t wr)
                  case atStart => exact ⟨0, _, rfl, by omega, rfl, rfl, HSO.out, HTB.out⟩
                  case round =>
                    clear HTB HSO hsz c2 HGK
                    rename World => wy
                    obtain ⟨y, so, hgk, hy1, rfl, rfl, hso, htb⟩ := hrel
                    have HGK := Lib.hid hgk
                    have HTB := Lib.hid htb
                    have hsz : so.size ≤ 160000 := by rw [hso, bL_size]; exact preF_le HE.out true y
                    have HSO := Lib.hid hso
                    clear hgk htb hso
                    have c1 : wy.cell? ⟨w.heap.size, 1, none⟩ = some (.slice a z c) := cell_at HTB.out.box
                    by_cases hlt : y < z
                    · obtain ⟨bb, o, x, wv, rfl, hx, hseq, hidx, hid, hwv, d0, d1, d2, d3⟩ := HTB.out.ins.inp hlt
                      have HWV := Lib.hid hwv
                      obtain ⟨xa, xc, rfl, -, hxm⟩ := hwv.shape
                      rw [maxLen_eq] at hxm
                      obtain ⟨xl, hxl⟩ : ∃ n, n = x.wit.length := ⟨_, rfl⟩
                      rw [← hxl] at d3 HWV
                      have hin : x ∈ t.ins := List.mem_of_getElem? hx
                      have h4 : xl ≤ 4 := by rw [hxl]; exact (HE.out.ids x hin).2.1
                      have HX := Lib.hid (And.intro hx (And.intro hxl (HE.out.ids x hin).2))
                      have hlo : (0 : Int) ≤ (y : Int) := by omega
                      clear hx hid hin hwv hxl d0 d1 d2
                      go_wp2_with fail
                      refine (rlength_any xl (by omega) wy).mono ?_
                      rintro en w3 ⟨rfl, hb⟩
                      have HTB := Lib.hid (HTB.out.next hb)
                      have HWV := Lib.hid (HWV.out.below hb)
                      replace c1 := below_cells hb _ _ c1
                      replace d3 := below_cells hb _ _ d3
                      clear hb
                      have C1 := Lib.hid c1
                      have D3 := Lib.hid d3
                      have q1 := vint_size xl
                      have HS2 := Lib.hid (show so ++ bL (vintL xl) = bL (preF t true y ++ vintL xl ++ (x.wit.take 0).flatMap sizedL) by rw [str_app HSO.out rfl, List.take_zero, List.flatMap_nil, List.append_nil])
                      clear HSO
                      go_wp2_with fail
                      go_loopg [7, 15] xl (fun g vs vi wr => ∃ (u : Nat) (so : ByteArray), g = xl - u ∧ u ≤ xl ∧ vs = .string so ∧ vi = .int .i64 u ∧ so = bL (preF t true y ++ vintL xl ++ (x.wit.take u).flatMap sizedL) ∧ Below w3.heap.size w3 wr)
                      case atStart => exact ⟨0, _, rfl, by omega, rfl, rfl, HS2.out, Below.refl _ _⟩
                      case round =>
                        clear HS2 hsz q1 c1 d3
                        rename World => wu
                        obtain ⟨u, so, hgk, hu1, rfl, rfl, hso, hbu⟩ := hrel
                        have HGK2 := Lib.hid hgk
                        have HTB2 := Lib.hid (HTB.out.next hbu)
                        have HBU := Lib.hid hbu
                        have hlen : (preF t true y ++ vintL xl ++ (x.wit.take u).flatMap sizedL).length ≤ 170000 := by
                          have h1 := preF_le HE.out true y
                          have h2 := vintL_le xl
                          have h3 := flat_take_le sizedL 89 x.wit u fun s hs => by have h5 := sizedL_le s; have h6 := HX.out.2.2.2 s hs; omega
                          have h4 := HX.out.2.2.1
                          simp only [List.length_append]
                          omega
                        have hsz : so.size ≤ 170000 := by rw [hso, bL_size]; exact hlen
                        have HSO := Lib.hid hso
                        have c1 := below_cells hbu _ _ C1.out
                        have d3 := below_cells hbu _ _ D3.out
                        clear hlen hgk hso hbu
                        by_cases hul : u < xl
                        · obtain ⟨bs, os, s, rfl, hs, -, ds⟩ := (HWV.out.below HBU.out).str hul
                          have hs80 : s.size ≤ 80 := HX.out.2.2.2 s (List.mem_of_getElem? hs)
                          have HS := Lib.hid hs
                          have hlo2 : (0 : Int) ≤ (u : Int) := by omega
                          clear hs
                          go_wp2_with fail
                          refine (rlength_any s.size (by omega) wu).mono ?_
                          rintro en w4 ⟨rfl, hb⟩
                          have HBU := Lib.hid (HBU.out.trans (hb.mono HBU.out.size))
                          replace c1 := below_cells hb _ _ c1
                          replace d3 := below_cells hb _ _ d3
                          replace ds := below_cells hb _ _ ds
                          clear hb
                          have q1 := vint_size s.size
                          have HS2 := Lib.hid (show so ++ bL (vintL s.size) ++ s = bL (preF t true y ++ vintL xl ++ (x.wit.take (u + 1)).flatMap sizedL) by rw [flat_take sizedL HS.out, sizedL, ← List.append_assoc, ← List.append_assoc]; exact str_app (str_app HSO.out rfl) (bL_data _).symm)
                          go_wp2_with fail
                          go_roundg (xl - (u + 1))
                          case measure => have := HGK2.out; omega
                          case rel => exact ⟨u + 1, _, rfl, by omega, rfl, by go_num, HS2.out, HBU.out⟩
                        · obtain rfl : u = xl := by omega
                          have HS2 := Lib.hid (show so = bL (preF t true (y + 1)) by rw [HSO.out, ← preF_step t true HX.out.1, ← HX.out.2.1, HX.out.2.1, List.take_length])
                          go_wp2_with fail
                          go_roundg (z - (y + 1))
                          case measure => have := HGK.out; omega
                          case rel => exact ⟨y + 1, _, rfl, by omega, rfl, by go_num, HS2.out, HTB2.out⟩
                    · obtain rfl : y = z := by omega
                      have HSO := Lib.hid (show so = bL (preF t true t.ins.length) by rw [HSO.out, HN.out.1])
                      have c3 : wy.cell? ⟨w.heap.size, 3, none⟩ = some (.int .u32 t.lock) := cell_at HTB.out.box
                      go_wp2_with fail
                      refine (orput_any t.lock 4 (by omega) (.inr (.inr (.inl rfl))) wy).mono ?_
                      rintro en w3 ⟨rfl, hb⟩
                      have HB := Lib.hid ((HTB.out.next hb).bel)
                      clear hb c3 c1
                      have q1 := leb_size t.lock 4
                      go_wp2_with fail
                      go_ret
                      exact ⟨by rw [str_app HSO.out rfl, preF_full]; rfl, HB.out⟩
end Go.Proofs.Ytfkcldaogfengaa
