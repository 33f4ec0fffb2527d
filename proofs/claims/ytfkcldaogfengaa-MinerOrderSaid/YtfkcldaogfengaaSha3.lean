/-
  SHA-256: rows of words, the schedule of a block. Conditions: none beyond each theorem's own.
-/
import Derived.Test.YtfkcldaogfengaaSha2
import Derived.Test.YtfkcldaogfengaaConv
import Derived.Test.YtfkcldaogfengaaRep
import Derived.Test.YtfkcldaogfengaaTail
import Derived.Laws.Cells
import Derived.Laws.CopyRow
import Derived.Deep.CutBlock
import Derived.Deep.WholeRow
import Derived.Laws.IdiomStrings
namespace Go.Proofs.Ytfkcldaogfengaa
open Go.RowKit Go.BigFrame
set_option linter.unusedVariables false
set_option linter.unusedSimpArgs false

/-- A row of words. -/
def ArrAt (w : World) (b n : Nat) (f : Nat → W32) : Prop := ∃ cs e, w.heap[b]? = some (.cells cs e (0, 0)) ∧ cs.size = n ∧ ∀ i, i < n → cs[i]? = some (.int .u32 (nv (f i)))
def upd (f : Nat → W32) (i : Nat) (x : W32) : Nat → W32 := fun j => if j = i then x else f j
theorem ArrAt.cell {w : World} {b n i : Nat} {f : Nat → W32} (h : ArrAt w b n f) (hi : i < n) : w.cell? ⟨b, i, none⟩ = some (.int .u32 (nv (f i))) := by
  obtain ⟨cs, e, h1, h2, h3⟩ := h
  rw [cell_at h1]; exact h3 i hi
theorem ArrAt.free {w : World} {b n i : Nat} {f : Nat → W32} (h : ArrAt w b n f) : w.frozen? ⟨b, i, none⟩ = false := by
  obtain ⟨cs, e, h1, h2, h3⟩ := h
  exact free_at h1
theorem ArrAt.next {w w' : World} {b n X : Nat} {f : Nat → W32} (h : ArrAt w b n f) (hb : Below X w w') (hX : b < X) : ArrAt w' b n f := by
  obtain ⟨cs, e, h1, h2, h3⟩ := h
  exact ⟨cs, e, (hb.block _ hX).trans h1, h2, h3⟩
theorem ArrAt.lt {w : World} {b n : Nat} {f : Nat → W32} (h : ArrAt w b n f) : b < w.heap.size := by
  obtain ⟨cs, e, h1, h2, h3⟩ := h
  exact (Array.getElem?_eq_some_iff.1 h1).1
theorem ArrAt.set {w : World} {b n i : Nat} {f : Nat → W32} (h : ArrAt w b n f) (x : W32) : ArrAt (w.setCell ⟨b, i, none⟩ (.int .u32 (nv x))) b n (upd f i x) := by
  obtain ⟨cs, e, h1, h2, h3⟩ := h
  refine ⟨_, e, heap_setCell_at h1, by simpa using h2, fun j hj => ?_⟩
  unfold upd
  by_cases hji : j = i
  · subst hji
    rw [if_pos rfl]
    simp [h2, hj]
  · rw [if_neg hji, Array.getElem?_setIfInBounds_ne (Ne.symm hji)]
    exact h3 j hj
theorem ArrAt.same {w : World} {b n : Nat} {f g : Nat → W32} (h : ArrAt w b n f) (he : ∀ i, i < n → f i = g i) : ArrAt w b n g := by
  obtain ⟨cs, e, h1, h2, h3⟩ := h
  exact ⟨cs, e, h1, h2, fun i hi => by rw [h3 i hi, he i hi]⟩
theorem nv_zero : nv 0 = 0 := by decide
/-- The row as one value. -/
def arrV (n : Nat) (f : Nat → W32) : Array Value := ((List.range n).map fun i => Value.int .u32 (nv (f i))).toArray
theorem arrV_size (n : Nat) (f : Nat → W32) : (arrV n f).size = n := by simp [arrV]
theorem ArrAt.load {w : World} {b n : Nat} {f : Nat → W32} {P : Program} (h : ArrAt w b n f) : (loadCellsFrom ⟨b, 0, none⟩ 0 n #[]).run P w = .ok (arrV n f) w := by
  have := run_loadCellsFrom (P := P) w ⟨b, 0, none⟩ (fun i => Value.int .u32 (nv (f i))) n 0 #[] (fun j hj => by
    rw [Addr.add_lit, Nat.zero_add, Nat.zero_add]
    exact h.cell hj)
  rw [this]
  simp [arrV]

theorem ArrAt.heap {w : World} {b n : Nat} {f : Nat → W32} (h : ArrAt w b n f) : ∃ e, w.heap[b]? = some (.cells (arrV n f) e (0, 0)) := by
  obtain ⟨cs, e, h1, h2, h3⟩ := h
  have : cs = arrV n f := by
    apply Array.ext
    · rw [h2, arrV_size]
    · intro i hi1 hi2
      have h4 := h3 i (by omega)
      rw [Array.getElem?_eq_getElem hi1] at h4
      rw [Option.some.inj h4]
      simp [arrV]
  subst this
  exact ⟨e, h1⟩
theorem arrV_one (n : Nat) (f : Nat → W32) : (arrV n f).all (·.oneCell') = true := by
  rw [Array.all_eq_true_iff_forall_mem]
  intro u hu
  have h1 : ∃ j, j < n ∧ Value.int .u32 (nv (f j)) = u := by simpa [arrV] using hu
  obtain ⟨j, -, rfl⟩ := h1
  rfl
section
variable {P : Program}
theorem wpList_load_arr {ops : Array Oper} {rest : List Oper} {o : Oper} {a : Act} {w : World} {Q : Exit → Act → World → Prop} {b n : Nat} {f : Nat → W32} {d : TypeDesc} (h : ArrAt w b n f) (hg : o.guard = none) (t : TypeId) (x : Operand)
    (ho : o.op = .load t x) (hx : a.eval x = .pointer (some ⟨b, 0, none⟩)) (hu : P.underlying t = some d) (hd : (match d with | .struct _ | .array _ _ => true | _ => false) = true) (hi : (P.info? t).map (·.size) = some n)
    (hK : wpList P ops Q rest (a.put o.dst (.agg (arrV n f))) w) : wpList P ops Q (o :: rest) a w := by
  obtain ⟨e, he⟩ := h.heap
  refine wpList_run hg ?_ hK
  simp only [execOp, ho, hx, Instr.loadAt, Instr.sureAddr, Sem.run_bind, Sem.run_pure, Result.andThen, run_loadVar_row w b e t (arrV n f) (0, 0) d he hu hd (by rw [arrV_size]; exact hi)]
theorem wpList_store_arr {ops : Array Oper} {rest : List Oper} {o : Oper} {a : Act} {w : World} {Q : Exit → Act → World → Prop} {b n : Nat} {f g : Nat → W32} (h : ArrAt w b n g) (hg : o.guard = none) (t : TypeId) (x y : Operand)
    (ho : o.op = .store t x y) (hx : a.eval x = .pointer (some ⟨b, 0, none⟩)) (hy : a.eval y = .agg (arrV n f)) (hi : (P.info? t).map (·.size) = some n)
    (hK : wpList P ops Q rest (a.put o.dst undef) (w.setRow b (arrV n f))) : wpList P ops Q (o :: rest) a w := by
  obtain ⟨e, he⟩ := h.heap
  refine wpList_plain hg fun K hK' => ?_
  unfold Oper.wp
  have hr : (execOp a.eval o).run P w = .ok .skip (w.setRow b (arrV n f)) := by
    simp only [execOp, ho, hx, hy, Instr.storeAt, Instr.sureAddr, Sem.run_bind, Sem.run_pure, Result.andThen, run_storeVar_row w b e t (arrV n g) (arrV n f) he (by rw [arrV_size]; exact hi) (by rw [arrV_size, arrV_size]) (arrV_one n f)]
  rw [hr]
  exact hK' _ _ hK
end
theorem ArrAt.row {w : World} {b n : Nat} {f g : Nat → W32} (h : ArrAt w b n g) : ArrAt (w.setRow b (arrV n f)) b n f := by
  obtain ⟨e, he⟩ := h.heap
  exact ⟨_, e, setRow_heap w b _ _ e (0, 0) he, arrV_size n f, fun i hi => by simp [arrV, hi]⟩

/-- What comes behind the first sixteen words. -/
def nextW (f : Nat → W32) (i : Nat) : W32 :=
  f (i - 16) + ((f (i - 15)).rotateRight 7 ^^^ (f (i - 15)).rotateRight 18 ^^^ f (i - 15) >>> 3) + f (i - 7) + ((f (i - 2)).rotateRight 17 ^^^ (f (i - 2)).rotateRight 19 ^^^ f (i - 2) >>> 10)
def sch (m : Nat → W32) : Nat → Nat → W32
  | 0 => fun _ => 0
  | i + 1 => upd (sch m i) i (if i < 16 then m i else nextW (sch m i) i)
/-- A word of a text's bytes. -/
def byteW (s : ByteArray) (i : Nat) : W32 := BitVec.ofNat 32 (s.data.toList.getD i 0).toNat
def msgW (s : ByteArray) (i : Nat) : W32 := ((((byteW s (4 * i)) <<< 8 ||| byteW s (4 * i + 1)) <<< 8 ||| byteW s (4 * i + 2)) <<< 8 ||| byteW s (4 * i + 3))

def SchedIs (s : ByteArray) (w : World) (e : Ending) (w' : World) : Prop := e = .returned (.agg (arrV 64 (sch (msgW s) 64))) ∧ Below w.heap.size w w'

theorem gen_world {P : Program} {c : Code} {Q : Exit → Act → World → Prop} {a : Act} {W : World} (F : World → Prop) (h : F W) (k : ∀ w0, F w0 → Code.wp P c Q a w0) : Code.wp P c Q a W := k W h

/-- The call's two rows. -/
structure SW (w : World) (f : Nat → W32) (wr : World) : Prop where
  bel : Below w.heap.size w wr
  res : ArrAt wr w.heap.size 64 (fun _ => 0)
  row : ArrAt wr (w.heap.size + 1) 64 f
theorem arr_rep {w : World} {b n : Nat} {e : TypeId} (h : w.heap[b]? = some (.cells (Array.replicate n (.int .u32 0)) e (0, 0))) : ArrAt w b n (fun _ => 0) :=
  ⟨_, e, h, by simp, fun i hi => by rw [nv_zero]; simp [hi]⟩
theorem SW.start (w : World) (e : TypeId) : SW w (fun _ => 0) ((w.alloc (.cells (Array.replicate 64 (.int .u32 0)) e)).alloc (.cells (Array.replicate 64 (.int .u32 0)) e)) := by
  have s1 : (w.alloc (.cells (Array.replicate 64 (.int .u32 0)) e)).heap.size = w.heap.size + 1 := by simp
  refine ⟨((Below.refl _ _).alloc (Nat.le_refl _) _).alloc (by omega) _, arr_rep (e := e) ?_, arr_rep (e := e) ?_⟩
  · rw [Below.heap_alloc _ _ _ (by omega)]
    exact heap_alloc_new w _
  · rw [← s1]
    exact heap_alloc_new _ _
theorem SW.next {w wr w' : World} {f : Nat → W32} (h : SW w f wr) (hb : Below wr.heap.size wr w') : SW w f w' :=
  ⟨h.bel.trans (hb.mono h.bel.size), h.res.next hb h.res.lt, h.row.next hb h.row.lt⟩
theorem SW.put {w wr : World} {f : Nat → W32} (h : SW w f wr) (i : Nat) (x : W32) : SW w (upd f i x) (wr.setCell ⟨w.heap.size + 1, i, none⟩ (.int .u32 (nv x))) := by
  refine ⟨h.bel.setCell (by simp) _, ?_, h.row.set x⟩
  obtain ⟨cs, e, h1, h2, h3⟩ := h.res
  exact ⟨cs, e, (Below.heap_setCell _ _ _ _ (by simp)).trans h1, h2, h3⟩

theorem byteW_range (s : ByteArray) (i : Nat) : 0 ≤ nv (byteW s i) ∧ nv (byteW s i) ≤ 255 := by
  unfold nv byteW
  rw [BitVec.toNat_ofNat]
  have := (s.data.toList.getD i 0).toNat_lt
  have : (s.data.toList.getD i 0).toNat % 2 ^ 32 = (s.data.toList.getD i 0).toNat := Nat.mod_eq_of_lt (by omega)
  omega
theorem byteW_nv (s : ByteArray) (i : Nat) : nv (byteW s i) = ((s.data.toList.getD i 0).toNat : Int) := by
  unfold nv byteW
  rw [BitVec.toNat_ofNat]
  have := (s.data.toList.getD i 0).toNat_lt
  have : (s.data.toList.getD i 0).toNat % 2 ^ 32 = (s.data.toList.getD i 0).toNat := Nat.mod_eq_of_lt (by omega)
  omega
theorem nv_shl8 (x : W32) : nv x * (256 : Int) % (4294967296 : Int) = nv (x <<< (8 : Nat)) := nv_shl x 8
theorem nv_shr3 (x : W32) : nv x / (8 : Int) = nv (x >>> (3 : Nat)) := nv_shr x 3
theorem nv_shr10 (x : W32) : nv x / (1024 : Int) = nv (x >>> (10 : Nat)) := nv_shr x 10
def pw (s : ByteArray) (k : Nat) : Nat → W32
  | 0 => 0
  | j + 1 => pw s k j <<< 8 ||| byteW s (4 * k + j)
theorem pw_four (s : ByteArray) (k : Nat) : pw s k 4 = msgW s k := by
  unfold msgW
  simp only [pw, Nat.add_zero]
  have : (0 : W32) <<< 8 ||| byteW s (4 * k) = byteW s (4 * k) := by simp
  rw [this]
theorem sch_ge (m : Nat → W32) : ∀ (k i : Nat), k ≤ i → sch m k i = 0
  | 0, _, _ => rfl
  | k + 1, i, h => by
    show upd (sch m k) k _ i = 0
    unfold upd
    rw [if_neg (by omega)]
    exact sch_ge m k i (by omega)
theorem upd_same {f : Nat → W32} {i : Nat} {x : W32} (h : f i = x) : upd f i x = f := by
  funext j
  unfold upd
  split
  · rename_i e; rw [e, h]
  · rfl
theorem upd_upd (f : Nat → W32) (i : Nat) (x y : W32) : upd (upd f i x) i y = upd f i y := by
  funext j
  unfold upd
  split <;> rfl

/-- Four bytes of a text, in a row of their own. -/
theorem conv4 (s : ByteArray) (k : Nat) (hk : 4 * k + 4 ≤ s.size) (w : World) : ∃ c w', (convert 9 52 (.string (s.extract (4 * k) (4 * k + 4)))).run Try.prog w = .ok (.slice (some ⟨w.heap.size, 0, none⟩) 4 c) w' ∧ Below w.heap.size w w' ∧ 4 ≤ c ∧ c ≤ 9223372036854775807 ∧
    w.heap.size < w'.heap.size ∧ ∀ j, j < 4 → w'.cell? ⟨w.heap.size, j, none⟩ = some (.int .u8 (nv (byteW s (4 * k + j)))) := by
  have hsz : (s.extract (4 * k) (4 * k + 4)).size = 4 := by simp [ByteArray.size_extract]; omega
  have hr := run_bytes_of_string (P := Try.prog) w 9 52 5 (s.extract (4 * k) (4 * k + 4)) Try.underlying9 Try.underlying52 Try.underlying5
  rw [hsz] at hr
  have hc1 := grownCap_ge w 4 0 5
  have hc2 := grownCap_le_maxLen w 4 0 5 (by rw [maxLen_eq]; omega)
  rw [maxLen_eq] at hc2
  refine ⟨_, _, hr, (Below.refl _ _).drew.alloc (Nat.le_refl _) _, hc1, hc2, by simp, fun j hj => ?_⟩
  have hh : (w.drew.alloc (.cells (bytesRow (s.extract (4 * k) (4 * k + 4)) (grownCap w 4 0 5)) 5 ((bytesRow (s.extract (4 * k) (4 * k + 4)) (grownCap w 4 0 5)).size, (bytesRow (s.extract (4 * k) (4 * k + 4)) (grownCap w 4 0 5)).size + 1))).heap[w.heap.size]? = some (.cells (bytesRow (s.extract (4 * k) (4 * k + 4)) (grownCap w 4 0 5)) 5 ((bytesRow (s.extract (4 * k) (4 * k + 4)) (grownCap w 4 0 5)).size, (bytesRow (s.extract (4 * k) (4 * k + 4)) (grownCap w 4 0 5)).size + 1)) := heap_alloc_new w.drew _
  simp only [World.cell?, hh]
  rw [byteW_nv]
  unfold bytesRow
  rw [Array.getElem?_append_left (by rw [Array.size_map]; have : (s.extract (4 * k) (4 * k + 4)).data.size = 4 := hsz; omega)]
  rw [Array.getElem?_map]
  have h1 : (s.extract (4 * k) (4 * k + 4)).data[j]? = some (s.data.toList.getD (4 * k + j) 0) := by
    have hd : (s.extract (4 * k) (4 * k + 4)).data = s.data.extract (4 * k) (4 * k + 4) := by simp
    have hs2 : s.data.size = s.size := rfl
    rw [hd, Array.getElem?_extract, if_pos (by omega)]
    have hlt : 4 * k + j < s.data.size := by omega
    rw [Array.getElem?_eq_getElem hlt]
    simp [List.getD, Array.getElem?_eq_getElem hlt]
  rw [h1]
  rfl

attribute [-go_sem] loadCellsFrom
end Go.Proofs.Ytfkcldaogfengaa
