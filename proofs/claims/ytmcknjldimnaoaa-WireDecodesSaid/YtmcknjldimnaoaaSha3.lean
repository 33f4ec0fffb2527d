/-
  SHA-256: rows of words, the schedule of a block. Conditions: none beyond each theorem's own.
-/
import Derived.Test.YtmcknjldimnaoaaSha2
import Derived.Test.YtmcknjldimnaoaaConv
import Derived.Test.YtmcknjldimnaoaaRep
import Derived.Test.YtmcknjldimnaoaaTail
import Derived.Laws.Cells
import Derived.Laws.CopyRow
import Derived.Deep.CutBlock
import Derived.Deep.WholeRow
import Derived.Laws.IdiomStrings
namespace Go.Proofs.Ytmcknjldimnaoaa
open Go.RowKit Go.BigFrame
set_option linter.unusedVariables false
set_option linter.unusedSimpArgs false

/-- A row of words. -/
def ArrAt (w : World) (b n : Nat) (f : Nat → W32) : Prop := ∃ cs e, w.heap[b]? = some (.cells cs e (0, 0)) ∧ cs.size = n ∧ ∀ i, i < n → cs[i]? = some (.int .u32 (nv (f i)))
def upd (f : Nat → W32) (i : Nat) (x : W32) : Nat → W32 := fun j => if j = i then x else f j
theorem ArrAt.cell {w : World} {b n i : Nat} {f : Nat → W32} (h : ArrAt w b n f) (hi : i < n) : w.cell? ⟨b, i, none⟩ = some (.int .u32 (nv (f i))) := by
  obtain ⟨cs, e, h1, h2, h3⟩ := h
  rw [cell_at h1]; exact h3 i hi
theorem ArrAt.free {w : World} {b n i : Nat} {f : Nat → W32} (h : ArrAt w b n f) : w.frozen? ⟨b, i, none⟩ = false := by
  obtain ⟨cs, e, h1, h2, h3⟩ := h
  exact free_at h1
theorem ArrAt.next {w w' : World} {b n X : Nat} {f : Nat → W32} (h : ArrAt w b n f) (hb : Below X w w') (hX : b < X) : ArrAt w' b n f := by
  obtain ⟨cs, e, h1, h2, h3⟩ := h
  exact ⟨cs, e, (hb.block _ hX).trans h1, h2, h3⟩
theorem ArrAt.lt {w : World} {b n : Nat} {f : Nat → W32} (h : ArrAt w b n f) : b < w.heap.size := by
  obtain ⟨cs, e, h1, h2, h3⟩ := h
  exact (Array.getElem?_eq_some_iff.1 h1).1
theorem ArrAt.set {w : World} {b n i : Nat} {f : Nat → W32} (h : ArrAt w b n f) (x : W32) : ArrAt (w.setCell ⟨b, i, none⟩ (.int .u32 (nv x))) b n (upd f i x) := by
  obtain ⟨cs, e, h1, h2, h3⟩ := h
  refine ⟨_, e, heap_setCell_at h1, by simpa using h2, fun j hj => ?_⟩
  unfold upd
  by_cases hji : j = i
  · subst hji
    rw [if_pos rfl]
    simp [h2, hj]
  · rw [if_neg hji, Array.getElem?_setIfInBounds_ne (Ne.symm hji)]
    exact h3 j hj
theorem ArrAt.same {w : World} {b n : Nat} {f g : Nat → W32} (h : ArrAt w b n f) (he : ∀ i, i < n → f i = g i) : ArrAt w b n g := by
  obtain ⟨cs, e, h1, h2, h3⟩ := h
  exact ⟨cs, e, h1, h2, fun i hi => by rw [h3 i hi, he i hi]⟩
theorem nv_zero : nv 0 = 0 := by decide
/-- The row as one value. -/
def arrV (n : Nat) (f : Nat → W32) : Array Value := ((List.range n).map fun i => Value.int .u32 (nv (f i))).toArray
theorem arrV_size (n : Nat) (f : Nat → W32) : (arrV n f).size = n := by simp [arrV]
theorem ArrAt.load {w : World} {b n : Nat} {f : Nat → W32} {P : Program} (h : ArrAt w b n f) : (loadCellsFrom ⟨b, 0, none⟩ 0 n #[]).run P w = .ok (arrV n f) w := by
  have := run_loadCellsFrom (P := P) w ⟨b, 0, none⟩ (fun i => Value.int .u32 (nv (f i))) n 0 #[] (fun j hj => by
    rw [Addr.add_lit, Nat.zero_add, Nat.zero_add]
    exact h.cell hj)
  rw [this]
  simp [arrV]

theorem ArrAt.heap {w : World} {b n : Nat} {f : Nat → W32} (h : ArrAt w b n f) : ∃ e, w.heap[b]? = some (.cells (arrV n f) e (0, 0)) := by
  obtain ⟨cs, e, h1, h2, h3⟩ := h
  have : cs = arrV n f := by
    apply Array.ext
    · rw [h2, arrV_size]
    · intro i hi1 hi2
      have h4 := h3 i (by omega)
      rw [Array.getElem?_eq_getElem hi1] at h4
      rw [Option.some.inj h4]
      simp [arrV]
  subst this
  exact ⟨e, h1⟩
theorem arrV_one (n : Nat) (f : Nat → W32) : (arrV n f).all (·.oneCell') = true := by
  rw [Array.all_eq_true_iff_forall_mem]
  intro u hu
  have h1 : ∃ j, j < n ∧ Value.int .u32 (nv (f j)) = u := by simpa [arrV] using hu
  obtain ⟨j, -, rfl⟩ := h1
  rfl
section
variable {P : Program}
theorem wpList_load_arr {ops : Array Oper} {rest : List Oper} {o : Oper} {a : Act} {w : World} {Q : Exit → Act → World → Prop} {b n : Nat} {f : Nat → W32} {d : TypeDesc} (h : ArrAt w b n f) (hg : o.guard = none) (t : TypeId) (x : Operand)
    (ho : o.op = .load t x) (hx : a.eval x = .pointer (some ⟨b, 0, none⟩)) (hu : P.underlying t = some d) (hd : (match d with | .struct _ | .array _ _ => true | _ => false) = true) (hi : (P.info? t).map (·.size) = some n)
    (hK : wpList P ops Q rest (a.put o.dst (.agg (arrV n f))) w) : wpList P ops Q (o :: rest) a w := by
  obtain ⟨e, he⟩ := h.heap
  refine wpList_run hg ?_ hK
  simp only [execOp, ho, hx, Instr.loadAt, Instr.sureAddr, Sem.run_bind, Sem.run_pure, Result.andThen, run_loadVar_row w b e t (arrV n f) (0, 0) d he hu hd (by rw [arrV_size]; exact hi)]
theorem wpList_store_arr {ops : Array Oper} {rest : List Oper} {o : Oper} {a : Act} {w : World} {Q : Exit → Act → World → Prop} {b n : Nat} {f g : Nat → W32} (h : ArrAt w b n g) (hg : o.guard = none) (t : TypeId) (x y : Operand)
    (ho : o.op = .store t x y) (hx : a.eval x = .pointer (some ⟨b, 0, none⟩)) (hy : a.eval y = .agg (arrV n f)) (hi : (P.info? t).map (·.size) = some n)
    (hK : wpList P ops Q rest (a.put o.dst undef) (w.setRow b (arrV n f))) : wpList P ops Q (o :: rest) a w := by
  obtain ⟨e, he⟩ := h.heap
  refine wpList_plain hg fun K hK' => ?_
  unfold Oper.wp
  have hr : (execOp a.eval o).run P w = .ok .skip (w.setRow b (arrV n f)) := by
    simp only [execOp, ho, hx, hy, Instr.storeAt, Instr.sureAddr, Sem.run_bind, Sem.run_pure, Result.andThen, run_storeVar_row w b e t (arrV n g) (arrV n f) he (by rw [arrV_size]; exact hi) (by rw [arrV_size, arrV_size]) (arrV_one n f)]
  rw [hr]
  exact hK' _ _ hK
end
theorem ArrAt.row {w : World} {b n : Nat} {f g : Nat → W32} (h : ArrAt w b n g) : ArrAt (w.setRow b (arrV n f)) b n f := by
  obtain ⟨e, he⟩ := h.heap
  exact ⟨_, e, setRow_heap w b _ _ e (0, 0) he, arrV_size n f, fun i hi => by simp [arrV, hi]⟩

/-- What comes behind the first sixteen words. -/
def nextW (f : Nat → W32) (i : Nat) : W32 :=
  f (i - 16) + ((f (i - 15)).rotateRight 7 ^^^ (f (i - 15)).rotateRight 18 ^^^ f (i - 15) >>> 3) + f (i - 7) + ((f (i - 2)).rotateRight 17 ^^^ (f (i - 2)).rotateRight 19 ^^^ f (i - 2) >>> 10)
def sch (m : Nat → W32) : Nat → Nat → W32
  | 0 => fun _ => 0
  | i + 1 => upd (sch m i) i (if i < 16 then m i else nextW (sch m i) i)
/-- A word of a text's bytes. -/
def byteW (s : ByteArray) (i : Nat) : W32 := BitVec.ofNat 32 (s.data.toList.getD i 0).toNat
def msgW (s : ByteArray) (i : Nat) : W32 := ((((byteW s (4 * i)) <<< 8 ||| byteW s (4 * i + 1)) <<< 8 ||| byteW s (4 * i + 2)) <<< 8 ||| byteW s (4 * i + 3))

def SchedIs (s : ByteArray) (w : World) (e : Ending) (w' : World) : Prop := e = .returned (.agg (arrV 64 (sch (msgW s) 64))) ∧ Below w.heap.size w w'

theorem gen_world {P : Program} {c : Code} {Q : Exit → Act → World → Prop} {a : Act} {W : World} (F : World → Prop) (h : F W) (k : ∀ w0, F w0 → Code.wp P c Q a w0) : Code.wp P c Q a W := k W h

/-- The call's two rows. -/
structure SW (w : World) (f : Nat → W32) (wr : World) : Prop where
  bel : Below w.heap.size w wr
  res : ArrAt wr w.heap.size 64 (fun _ => 0)
  row : ArrAt wr (w.heap.size + 1) 64 f
theorem arr_rep {w : World} {b n : Nat} {e : TypeId} (h : w.heap[b]? = some (.cells (Array.replicate n (.int .u32 0)) e (0, 0))) : ArrAt w b n (fun _ => 0) :=
  ⟨_, e, h, by simp, fun i hi => by rw [nv_zero]; simp [hi]⟩
theorem SW.start (w : World) (e : TypeId) : SW w (fun _ => 0) ((w.alloc (.cells (Array.replicate 64 (.int .u32 0)) e)).alloc (.cells (Array.replicate 64 (.int .u32 0)) e)) := by
  have s1 : (w.alloc (.cells (Array.replicate 64 (.int .u32 0)) e)).heap.size = w.heap.size + 1 := by simp
  refine ⟨((Below.refl _ _).alloc (Nat.le_refl _) _).alloc (by omega) _, arr_rep (e := e) ?_, arr_rep (e := e) ?_⟩
  · rw [Below.heap_alloc _ _ _ (by omega)]
    exact heap_alloc_new w _
  · rw [← s1]
    exact heap_alloc_new _ _
theorem SW.next {w wr w' : World} {f : Nat → W32} (h : SW w f wr) (hb : Below wr.heap.size wr w') : SW w f w' :=
  ⟨h.bel.trans (hb.mono h.bel.size), h.res.next hb h.res.lt, h.row.next hb h.row.lt⟩
theorem SW.put {w wr : World} {f : Nat → W32} (h : SW w f wr) (i : Nat) (x : W32) : SW w (upd f i x) (wr.setCell ⟨w.heap.size + 1, i, none⟩ (.int .u32 (nv x))) := by
  refine ⟨h.bel.setCell (by simp) _, ?_, h.row.set x⟩
  obtain ⟨cs, e, h1, h2, h3⟩ := h.res
  exact ⟨cs, e, (Below.heap_setCell _ _ _ _ (by simp)).trans h1, h2, h3⟩

theorem byteW_range (s : ByteArray) (i : Nat) : 0 ≤ nv (byteW s i) ∧ nv (byteW s i) ≤ 255 := by
  unfold nv byteW
  rw [BitVec.toNat_ofNat]
  have := (s.data.toList.getD i 0).toNat_lt
  have : (s.data.toList.getD i 0).toNat % 2 ^ 32 = (s.data.toList.getD i 0).toNat := Nat.mod_eq_of_lt (by omega)
  omega
theorem byteW_nv (s : ByteArray) (i : Nat) : nv (byteW s i) = ((s.data.toList.getD i 0).toNat : Int) := by
  unfold nv byteW
  rw [BitVec.toNat_ofNat]
  have := (s.data.toList.getD i 0).toNat_lt
  have : (s.data.toList.getD i 0).toNat % 2 ^ 32 = (s.data.toList.getD i 0).toNat := Nat.mod_eq_of_lt (by omega)
  omega
theorem nv_shl8 (x : W32) : nv x * (256 : Int) % (4294967296 : Int) = nv (x <<< (8 : Nat)) := nv_shl x 8
theorem nv_shr3 (x : W32) : nv x / (8 : Int) = nv (x >>> (3 : Nat)) := nv_shr x 3
theorem nv_shr10 (x : W32) : nv x / (1024 : Int) = nv (x >>> (10 : Nat)) := nv_shr x 10
def pw (s : ByteArray) (k : Nat) : Nat → W32
  | 0 => 0
  | j + 1 => pw s k j <<< 8 ||| byteW s (4 * k + j)
theorem pw_four (s : ByteArray) (k : Nat) : pw s k 4 = msgW s k := by
  unfold msgW
  simp only [pw, Nat.add_zero]
  have : (0 : W32) <<< 8 ||| byteW s (4 * k) = byteW s (4 * k) := by simp
  rw [this]
theorem sch_ge (m : Nat → W32) : ∀ (k i : Nat), k ≤ i → sch m k i = 0
  | 0, _, _ => rfl
  | k + 1, i, h => by
    show upd (sch m k) k _ i = 0
    unfold upd
    rw [if_neg (by omega)]
    exact sch_ge m k i (by omega)
theorem upd_same {f : Nat → W32} {i : Nat} {x : W32} (h : f i = x) : upd f i x = f := by
  funext j
  unfold upd
  split
  · rename_i e; rw [e, h]
  · rfl
theorem upd_upd (f : Nat → W32) (i : Nat) (x y : W32) : upd (upd f i x) i y = upd f i y := by
  funext j
  unfold upd
  split <;> rfl

/-- Four bytes of a text, in a row of their own. -/
theorem conv4 (s : ByteArray) (k : Nat) (hk : 4 * k + 4 ≤ s.size) (w : World) : ∃ c w', (convert 9 90 (.string (s.extract (4 * k) (4 * k + 4)))).run Try.prog w = .ok (.slice (some ⟨w.heap.size, 0, none⟩) 4 c) w' ∧ Below w.heap.size w w' ∧ 4 ≤ c ∧ c ≤ 9223372036854775807 ∧
    w.heap.size < w'.heap.size ∧ ∀ j, j < 4 → w'.cell? ⟨w.heap.size, j, none⟩ = some (.int .u8 (nv (byteW s (4 * k + j)))) := by
  have hsz : (s.extract (4 * k) (4 * k + 4)).size = 4 := by simp [ByteArray.size_extract]; omega
  have hr := run_bytes_of_string (P := Try.prog) w 9 90 5 (s.extract (4 * k) (4 * k + 4)) Try.underlying9 Try.underlying90 Try.underlying5
  rw [hsz] at hr
  have hc1 := grownCap_ge w 4 0 5
  have hc2 := grownCap_le_maxLen w 4 0 5 (by rw [maxLen_eq]; omega)
  rw [maxLen_eq] at hc2
  refine ⟨_, _, hr, (Below.refl _ _).drew.alloc (Nat.le_refl _) _, hc1, hc2, by simp, fun j hj => ?_⟩
  have hh : (w.drew.alloc (.cells (bytesRow (s.extract (4 * k) (4 * k + 4)) (grownCap w 4 0 5)) 5 ((bytesRow (s.extract (4 * k) (4 * k + 4)) (grownCap w 4 0 5)).size, (bytesRow (s.extract (4 * k) (4 * k + 4)) (grownCap w 4 0 5)).size + 1))).heap[w.heap.size]? = some (.cells (bytesRow (s.extract (4 * k) (4 * k + 4)) (grownCap w 4 0 5)) 5 ((bytesRow (s.extract (4 * k) (4 * k + 4)) (grownCap w 4 0 5)).size, (bytesRow (s.extract (4 * k) (4 * k + 4)) (grownCap w 4 0 5)).size + 1)) := heap_alloc_new w.drew _
  simp only [World.cell?, hh]
  rw [byteW_nv]
  unfold bytesRow
  rw [Array.getElem?_append_left (by rw [Array.size_map]; have : (s.extract (4 * k) (4 * k + 4)).data.size = 4 := hsz; omega)]
  rw [Array.getElem?_map]
  have h1 : (s.extract (4 * k) (4 * k + 4)).data[j]? = some (s.data.toList.getD (4 * k + j) 0) := by
    have hd : (s.extract (4 * k) (4 * k + 4)).data = s.data.extract (4 * k) (4 * k + 4) := by simp
    have hs2 : s.data.size = s.size := rfl
    rw [hd, Array.getElem?_extract, if_pos (by omega)]
    have hlt : 4 * k + j < s.data.size := by omega
    rw [Array.getElem?_eq_getElem hlt]
    simp [List.getD, Array.getElem?_eq_getElem hlt]
  rw [h1]
  rfl

attribute [-go_sem] loadCellsFrom
set_option maxRecDepth 100000 in
set_option maxHeartbeats 4000000 in
theorem schedule_any (s : ByteArray) (hs : 64 ≤ s.size) (hm : s.size ≤ 9223372036854775807) (w : World) : Calls Try.prog 92 #[.string s] w (SchedIs s w) := by
  go_enter Try.func92, Try.ntmps92
  go_upto_region 2 with fail
  refine gen_world (SW w (fun _ => 0)) (SW.start w _) ?_
  intro w0 hsw
  have HS0 := Lib.hid hsw
  clear hsw
  go_wp2_with fail
  go_loopg [4, 6, 7, 8, 9] 64 (fun g _ _ _ _ i wr => ∃ k : Nat, g = 64 - k ∧ k ≤ 64 ∧ i = .int .i64 k ∧ SW w (sch (msgW s) k) wr)
  case atStart => exact ⟨0, rfl, by omega, rfl, HS0.out⟩
  case round =>
    rename World => wa
    obtain ⟨k, hgk, hk, rfl, hsw⟩ := hrel
    have HGK := Lib.hid hgk
    have HSW := Lib.hid hsw
    clear hgk hsw HS0
    by_cases hlt : k < 64
    · by_cases h16 : k < 16
      · obtain ⟨c4, wb, hrun, hbb, hc1, hc2, hsz, hcell⟩ := conv4 s k (by omega) wa
        have HBB := Lib.hid (HSW.out.next hbb)
        have HCE := Lib.hid hcell
        have HSZ := Lib.hid hsz
        clear hbb hcell hsz
        go_upto_block 2 with fail
        clear hrun
        go_cut [6] (fun _ wx => SW w (upd (sch (msgW s) k) k (msgW s k)) wx)
        case first =>
          go_wp2_with fail
          go_loopg [6, 23] 4 (fun g _ i wr => ∃ j : Nat, g = 4 - j ∧ j ≤ 4 ∧ i = .int .i64 j ∧ SW w (upd (sch (msgW s) k) k (pw s k j)) wr ∧ ∀ q, q < 4 → wr.cell? ⟨wa.heap.size, q, none⟩ = some (.int .u8 (nv (byteW s (4 * k + q)))))
          case atStart => exact ⟨0, rfl, by omega, rfl, by rw [show pw s k 0 = 0 from rfl, upd_same (sch_ge _ _ _ (Nat.le_refl _))]; exact HBB.out, HCE.out⟩
          case round =>
            rename World => wd
            obtain ⟨j, hgj, hj, rfl, hsw, hce⟩ := hrel
            have HGJ := Lib.hid hgj
            have HS2 := Lib.hid hsw
            have HC2 := Lib.hid hce
            clear hgj hsw hce
            by_cases hj4 : j < 4
            · have g0 := HC2.out j hj4
              have g1 := HS2.out.row.cell hlt
              have g2 : wd.frozen? ⟨w.heap.size + 1, k, none⟩ = false := HS2.out.row.free
              have hu : upd (sch (msgW s) k) k (pw s k j) k = pw s k j := by unfold upd; rw [if_pos rfl]
              rw [hu] at g1
              have hbr := byteW_range s (4 * k + j)
              clear hu
              go_wp2_with fail
              go_roundg (4 - (j + 1))
              case measure => have := HGJ.out; omega
              case rel =>
                refine ⟨j + 1, rfl, by omega, by go_num, ?_, fun q hq => ?_⟩
                · have := HS2.out.put k (pw s k (j + 1))
                  rw [upd_upd] at this
                  have e : bits .or .u32 (nv (pw s k j) * 256 % 4294967296) (nv (byteW s (4 * k + j))) = nv (pw s k (j + 1)) := by
                    rw [nv_shl8, nv_or]; rfl
                  rw [e]
                  exact this
                · rw [World.cell?_setCell_other]
                  · exact HC2.out q hq
                  · intro e
                    injection e with e1
                    have := HSW.out.row.lt
                    omega
            · obtain rfl : j = 4 := by omega
              clear hj4
              go_wp2_with fail
              go_meet
              have := HS2.out
              rw [pw_four] at this
              exact this
        case rest =>
          have hnext : sch (msgW s) (k + 1) = upd (sch (msgW s) k) k (msgW s k) := by
            show upd (sch (msgW s) k) k _ = _
            rw [if_pos h16]
          have HC := Lib.hid hcut
          have HNX := Lib.hid hnext
          clear hcut hnext
          go_wp2_with fail
          go_roundg (64 - (k + 1))
          case measure => have := HGK.out; omega
          case rel => exact ⟨k + 1, rfl, by omega, by go_num, by rw [HNX.out]; exact HC.out⟩
      · obtain ⟨n, rfl⟩ : ∃ n, k = n + 16 := ⟨k - 16, by omega⟩
        have hnext : sch (msgW s) (n + 16 + 1) = upd (sch (msgW s) (n + 16)) (n + 16) (nextW (sch (msgW s) (n + 16)) (n + 16)) := by
          show upd (sch (msgW s) (n + 16)) (n + 16) _ = _
          rw [if_neg h16]
        have HNX := Lib.hid hnext
        clear hnext
        generalize hf : sch (msgW s) (n + 16) = f at *
        clear hf
        have c0 := HSW.out.row.cell (i := n) (by omega)
        have c1 := HSW.out.row.cell (i := n + 1) (by omega)
        have c9 := HSW.out.row.cell (i := n + 9) (by omega)
        have c14 := HSW.out.row.cell (i := n + 14) (by omega)
        have c16 := HSW.out.row.cell (i := n + 16) (by omega)
        have hn1 : (((n + 16 : Nat) : Int)) - 15 = ((n + 1 : Nat) : Int) := by omega
        have Q7 := Lib.hid (show ∀ w : World, Calls Try.prog 116 #[.int .u32 (nv (f (n + 1))), .int .i64 7] w (fun e' w' => e' = .returned (.int .u32 (nv (BitVec.rotateRight (f (n + 1)) 7))) ∧ w = w') from fun w => right_any (f (n + 1)) 7 (by decide) w)
        have Q18 := Lib.hid (show ∀ w : World, Calls Try.prog 116 #[.int .u32 (nv (f (n + 1))), .int .i64 18] w (fun e' w' => e' = .returned (.int .u32 (nv (BitVec.rotateRight (f (n + 1)) 18))) ∧ w = w') from fun w => right_any (f (n + 1)) 18 (by decide) w)
        have Q17 := Lib.hid (show ∀ w : World, Calls Try.prog 116 #[.int .u32 (nv (f (n + 14))), .int .i64 17] w (fun e' w' => e' = .returned (.int .u32 (nv (BitVec.rotateRight (f (n + 14)) 17))) ∧ w = w') from fun w => right_any (f (n + 14)) 17 (by decide) w)
        have Q19 := Lib.hid (show ∀ w : World, Calls Try.prog 116 #[.int .u32 (nv (f (n + 14))), .int .i64 19] w (fun e' w' => e' = .returned (.int .u32 (nv (BitVec.rotateRight (f (n + 14)) 19))) ∧ w = w') from fun w => right_any (f (n + 14)) 19 (by decide) w)
        clear h16
        go_wp2_with fail
        go_quiet (fail)
        obtain ⟨C, hC⟩ : ∃ C : World → Prop, C = fun w' => Below wa.heap.size wa w' := ⟨_, rfl⟩
        have hk0 : ∀ y : Kin C, y.w.cell? ⟨w.heap.size + 1, n, none⟩ = some (.int .u32 (nv (f n))) := by
          intro ⟨y, h⟩; subst hC; exact below_cells h _ _ c0
        have hk9 : ∀ y : Kin C, y.w.cell? ⟨w.heap.size + 1, n + 9, none⟩ = some (.int .u32 (nv (f (n + 9)))) := by
          intro ⟨y, h⟩; subst hC; exact below_cells h _ _ c9
        have HC := Lib.hid hC
        clear hC
        go_wp2_with fail
        refine wp_region_last_kin C 29 _ rfl rfl (by kernel_rfl) (by kernel_rfl) (by kernel_rfl) (by kernel_rfl) (by kernel_rfl) (by kernel_rfl) (by rw [HC.out]; exact ⟨rfl, rfl, rfl, Nat.le_refl _, fun _ _ => rfl⟩) ?_
        intro hne
        dsimp only [List.set, struck]
        repeat (first | (go_big_quiet_step (first | (rename_i y; go_at_call_of 116 (Value.int IntKind.i64 7); exact Calls.kin (Q7.out _) (fun w' h => h ▸ y.has)) | (rename_i y; go_at_call_of 116 (Value.int IntKind.i64 18); exact Calls.kin (Q18.out _) (fun w' h => h ▸ y.has)) | (rename_i y; go_at_call_of 116 (Value.int IntKind.i64 17); exact Calls.kin (Q17.out _) (fun w' h => h ▸ y.has)) | (rename_i y; go_at_call_of 116 (Value.int IntKind.i64 19); exact Calls.kin (Q19.out _) (fun w' h => h ▸ y.has)))) | (quiet_step (first | (rename_i y; go_at_call_of 116 (Value.int IntKind.i64 7); exact Calls.kin (Q7.out _) (fun w' h => h ▸ y.has)) | (rename_i y; go_at_call_of 116 (Value.int IntKind.i64 18); exact Calls.kin (Q18.out _) (fun w' h => h ▸ y.has)) | (rename_i y; go_at_call_of 116 (Value.int IntKind.i64 17); exact Calls.kin (Q17.out _) (fun w' h => h ▸ y.has)) | (rename_i y; go_at_call_of 116 (Value.int IntKind.i64 19); exact Calls.kin (Q19.out _) (fun w' h => h ▸ y.has)))))
        refine wpQuiet_nil ?_
        intro _ hw'
        obtain ⟨kx, hw''⟩ := hw'
        subst hw''
        obtain ⟨wx, hxc⟩ := kx
        rw [HC.out] at hxc
        have hsx := HSW.out.next hxc
        have d16 := hsx.row.cell (i := n + 16) (by omega)
        have g16 : wx.frozen? ⟨w.heap.size + 1, n + 16, none⟩ = false := hsx.row.free
        have HSX := Lib.hid hsx
        clear hsx hxc c0 c1 c9 c14 c16 hk0 hk9
        go_wp2_with fail
        simp only [nv_shr3, nv_shr10, nv_xor, nv_add4]
        go_roundg (64 - (n + 16 + 1))
        case measure => have := HGK.out; omega
        case rel =>
          have hnw : nextW f (n + 16) = f n + ((f (n + 1)).rotateRight 7 ^^^ (f (n + 1)).rotateRight 18 ^^^ f (n + 1) >>> 3) + f (n + 9) + ((f (n + 14)).rotateRight 17 ^^^ (f (n + 14)).rotateRight 19 ^^^ f (n + 14) >>> 10) := by
            unfold nextW
            rw [show n + 16 - 16 = n by omega, show n + 16 - 15 = n + 1 by omega, show n + 16 - 7 = n + 9 by omega, show n + 16 - 2 = n + 14 by omega]
          have := HSX.out.put (n + 16) (nextW f (n + 16))
          refine ⟨n + 16 + 1, rfl, by omega, by go_num, ?_⟩
          rw [HNX.out]
          rw [hnw] at this ⊢
          exact this
    · obtain rfl : k = 64 := by omega
      obtain ⟨f, hf⟩ : ∃ f, f = sch (msgW s) 64 := ⟨_, rfl⟩
      rw [← hf] at HSW
      have HF := Lib.hid hf
      clear hf
      go_upto_region 14 with fail
      refine wp_region_lit ?_
      refine wpList_load_arr HSW.out.row rfl 126 (.tmp 3) rfl rfl Try.underlying126 rfl (by kernel_rfl) ?_
      refine wpList_store_arr (f := f) HSW.out.res rfl 126 (.tmp 2) (.tmp 75) rfl rfl rfl (by kernel_rfl) ?_
      have hrow := HSW.out.res.row (f := f)
      have hbel : Below w.heap.size w (wa.setRow w.heap.size (arrV 64 f)) := ⟨HSW.out.bel.os, HSW.out.bel.tape, HSW.out.bel.output, by have := HSW.out.bel.size; simpa [World.setRow] using this, fun k hk => (setRow_other wa w.heap.size k _ (by omega)).trans (HSW.out.bel.block k hk)⟩
      generalize wa.setRow w.heap.size (arrV 64 f) = wz at *
      have hl := hrow.load (P := Try.prog)
      have HB := Lib.hid hbel
      have HL := Lib.hid hl
      clear hbel hl hrow
      go_wp2
      have hL := HL.out
      refine bodyPost_ret (v := .agg (arrV 64 f)) (by simp [results, Try.results92, go_sem, hL]) rfl ⟨by rw [HF.out], HB.out⟩
end Go.Proofs.Ytmcknjldimnaoaa
