/-
  ClaimBuilds, part 6: the texts Sha3, Sha4, ShaB, Wx, Wb, one after another. Conditions: none beyond those named at each.
-/
import Derived.Test.YtmakghcoehkphaaGreatQ5ClaimBuilds
import Derived.Test.YtmakghcoehkphaaGreatQ1ClaimBuilds
import Derived.Test.YtmakghcoehkphaaGreatQ2ClaimBuilds
import Derived.Laws.Cells
import Derived.Laws.CopyRow
import Derived.Deep.CutBlock
import Derived.Deep.WholeRow
import Derived.Laws.IdiomStrings
import Derived.Laws.OwnMore
import Derived.Test.YtmakghcoehkphaaGreatQ4ClaimBuilds
section
/-
  SHA-256: rows of words, the schedule of a block. Conditions: none beyond each theorem's own.
-/
namespace Go.Proofs.YtmakghcoehkphaaGreat
open Go.RowKit Go.BigFrame
set_option linter.unusedVariables false
set_option linter.unusedSimpArgs false

/-- A row of words. -/
def ArrAt (w : World) (b n : Nat) (f : Nat → W32) : Prop := ∃ cs e, w.heap[b]? = some (.cells cs e (0, 0)) ∧ cs.size = n ∧ ∀ i, i < n → cs[i]? = some (.int .u32 (nv (f i)))
def upd (f : Nat → W32) (i : Nat) (x : W32) : Nat → W32 := fun j => if j = i then x else f j
theorem ArrAt.cell {w : World} {b n i : Nat} {f : Nat → W32} (h : ArrAt w b n f) (hi : i < n) : w.cell? ⟨b, i, none⟩ = some (.int .u32 (nv (f i))) := by
  obtain ⟨cs, e, h1, h2, h3⟩ := h
  rw [cell_at h1]; exact h3 i hi
theorem ArrAt.free {w : World} {b n i : Nat} {f : Nat → W32} (h : ArrAt w b n f) : w.frozen? ⟨b, i, none⟩ = false := by
  obtain ⟨cs, e, h1, h2, h3⟩ := h
  exact free_at h1
theorem ArrAt.next {w w' : World} {b n X : Nat} {f : Nat → W32} (h : ArrAt w b n f) (hb : Below X w w') (hX : b < X) : ArrAt w' b n f := by
  obtain ⟨cs, e, h1, h2, h3⟩ := h
  exact ⟨cs, e, (hb.block _ hX).trans h1, h2, h3⟩
theorem ArrAt.lt {w : World} {b n : Nat} {f : Nat → W32} (h : ArrAt w b n f) : b < w.heap.size := by
  obtain ⟨cs, e, h1, h2, h3⟩ := h
  exact (Array.getElem?_eq_some_iff.1 h1).1
theorem ArrAt.set {w : World} {b n i : Nat} {f : Nat → W32} (h : ArrAt w b n f) (x : W32) : ArrAt (w.setCell ⟨b, i, none⟩ (.int .u32 (nv x))) b n (upd f i x) := by
  obtain ⟨cs, e, h1, h2, h3⟩ := h
  refine ⟨_, e, heap_setCell_at h1, by simpa using h2, fun j hj => ?_⟩
  unfold upd
  by_cases hji : j = i
  · subst hji
    rw [if_pos rfl]
    simp [h2, hj]
  · rw [if_neg hji, Array.getElem?_setIfInBounds_ne (Ne.symm hji)]
    exact h3 j hj
theorem ArrAt.same {w : World} {b n : Nat} {f g : Nat → W32} (h : ArrAt w b n f) (he : ∀ i, i < n → f i = g i) : ArrAt w b n g := by
  obtain ⟨cs, e, h1, h2, h3⟩ := h
  exact ⟨cs, e, h1, h2, fun i hi => by rw [h3 i hi, he i hi]⟩
theorem nv_zero : nv 0 = 0 := by decide
/-- The row as one value. -/
def arrV (n : Nat) (f : Nat → W32) : Array Value := ((List.range n).map fun i => Value.int .u32 (nv (f i))).toArray
theorem arrV_size (n : Nat) (f : Nat → W32) : (arrV n f).size = n := by simp [arrV]
theorem ArrAt.load {w : World} {b n : Nat} {f : Nat → W32} {P : Program} (h : ArrAt w b n f) : (loadCellsFrom ⟨b, 0, none⟩ 0 n #[]).run P w = .ok (arrV n f) w := by
  have := run_loadCellsFrom (P := P) w ⟨b, 0, none⟩ (fun i => Value.int .u32 (nv (f i))) n 0 #[] (fun j hj => by
    rw [Addr.add_lit, Nat.zero_add, Nat.zero_add]
    exact h.cell hj)
  rw [this]
  simp [arrV]

theorem ArrAt.heap {w : World} {b n : Nat} {f : Nat → W32} (h : ArrAt w b n f) : ∃ e, w.heap[b]? = some (.cells (arrV n f) e (0, 0)) := by
  obtain ⟨cs, e, h1, h2, h3⟩ := h
  have : cs = arrV n f := by
    apply Array.ext
    · rw [h2, arrV_size]
    · intro i hi1 hi2
      have h4 := h3 i (by omega)
      rw [Array.getElem?_eq_getElem hi1] at h4
      rw [Option.some.inj h4]
      simp [arrV]
  subst this
  exact ⟨e, h1⟩
theorem arrV_one (n : Nat) (f : Nat → W32) : (arrV n f).all (·.oneCell') = true := by
  rw [Array.all_eq_true_iff_forall_mem]
  intro u hu
  have h1 : ∃ j, j < n ∧ Value.int .u32 (nv (f j)) = u := by simpa [arrV] using hu
  obtain ⟨j, -, rfl⟩ := h1
  rfl
section
variable {P : Program}
theorem wpList_load_arr {ops : Array Oper} {rest : List Oper} {o : Oper} {a : Act} {w : World} {Q : Exit → Act → World → Prop} {b n : Nat} {f : Nat → W32} {d : TypeDesc} (h : ArrAt w b n f) (hg : o.guard = none) (t : TypeId) (x : Operand)
    (ho : o.op = .load t x) (hx : a.eval x = .pointer (some ⟨b, 0, none⟩)) (hu : P.underlying t = some d) (hd : (match d with | .struct _ | .array _ _ => true | _ => false) = true) (hi : (P.info? t).map (·.size) = some n)
    (hK : wpList P ops Q rest (a.put o.dst (.agg (arrV n f))) w) : wpList P ops Q (o :: rest) a w := by
  obtain ⟨e, he⟩ := h.heap
  refine wpList_run hg ?_ hK
  simp only [execOp, ho, hx, Instr.loadAt, Instr.sureAddr, Sem.run_bind, Sem.run_pure, Result.andThen, run_loadVar_row w b e t (arrV n f) (0, 0) d he hu hd (by rw [arrV_size]; exact hi)]
theorem wpList_store_arr {ops : Array Oper} {rest : List Oper} {o : Oper} {a : Act} {w : World} {Q : Exit → Act → World → Prop} {b n : Nat} {f g : Nat → W32} (h : ArrAt w b n g) (hg : o.guard = none) (t : TypeId) (x y : Operand)
    (ho : o.op = .store t x y) (hx : a.eval x = .pointer (some ⟨b, 0, none⟩)) (hy : a.eval y = .agg (arrV n f)) (hi : (P.info? t).map (·.size) = some n)
    (hK : wpList P ops Q rest (a.put o.dst undef) (w.setRow b (arrV n f))) : wpList P ops Q (o :: rest) a w := by
  obtain ⟨e, he⟩ := h.heap
  refine wpList_plain hg fun K hK' => ?_
  unfold Oper.wp
  have hr : (execOp a.eval o).run P w = .ok .skip (w.setRow b (arrV n f)) := by
    simp only [execOp, ho, hx, hy, Instr.storeAt, Instr.sureAddr, Sem.run_bind, Sem.run_pure, Result.andThen, run_storeVar_row w b e t (arrV n g) (arrV n f) he (by rw [arrV_size]; exact hi) (by rw [arrV_size, arrV_size]) (arrV_one n f)]
  rw [hr]
  exact hK' _ _ hK
end
theorem ArrAt.row {w : World} {b n : Nat} {f g : Nat → W32} (h : ArrAt w b n g) : ArrAt (w.setRow b (arrV n f)) b n f := by
  obtain ⟨e, he⟩ := h.heap
  exact ⟨_, e, setRow_heap w b _ _ e (0, 0) he, arrV_size n f, fun i hi => by simp [arrV, hi]⟩

/-- What comes behind the first sixteen words. -/
def nextW (f : Nat → W32) (i : Nat) : W32 :=
  f (i - 16) + ((f (i - 15)).rotateRight 7 ^^^ (f (i - 15)).rotateRight 18 ^^^ f (i - 15) >>> 3) + f (i - 7) + ((f (i - 2)).rotateRight 17 ^^^ (f (i - 2)).rotateRight 19 ^^^ f (i - 2) >>> 10)
def sch (m : Nat → W32) : Nat → Nat → W32
  | 0 => fun _ => 0
  | i + 1 => upd (sch m i) i (if i < 16 then m i else nextW (sch m i) i)
/-- A word of a text's bytes. -/
def byteW (s : ByteArray) (i : Nat) : W32 := BitVec.ofNat 32 (s.data.toList.getD i 0).toNat
def msgW (s : ByteArray) (i : Nat) : W32 := ((((byteW s (4 * i)) <<< 8 ||| byteW s (4 * i + 1)) <<< 8 ||| byteW s (4 * i + 2)) <<< 8 ||| byteW s (4 * i + 3))

def SchedIs (s : ByteArray) (w : World) (e : Ending) (w' : World) : Prop := e = .returned (.agg (arrV 64 (sch (msgW s) 64))) ∧ Below w.heap.size w w'

theorem gen_world {P : Program} {c : Code} {Q : Exit → Act → World → Prop} {a : Act} {W : World} (F : World → Prop) (h : F W) (k : ∀ w0, F w0 → Code.wp P c Q a w0) : Code.wp P c Q a W := k W h

/-- The call's two rows. -/
structure SW (w : World) (f : Nat → W32) (wr : World) : Prop where
  bel : Below w.heap.size w wr
  res : ArrAt wr w.heap.size 64 (fun _ => 0)
  row : ArrAt wr (w.heap.size + 1) 64 f
theorem arr_rep {w : World} {b n : Nat} {e : TypeId} (h : w.heap[b]? = some (.cells (Array.replicate n (.int .u32 0)) e (0, 0))) : ArrAt w b n (fun _ => 0) :=
  ⟨_, e, h, by simp, fun i hi => by rw [nv_zero]; simp [hi]⟩
theorem SW.start (w : World) (e : TypeId) : SW w (fun _ => 0) ((w.alloc (.cells (Array.replicate 64 (.int .u32 0)) e)).alloc (.cells (Array.replicate 64 (.int .u32 0)) e)) := by
  have s1 : (w.alloc (.cells (Array.replicate 64 (.int .u32 0)) e)).heap.size = w.heap.size + 1 := by simp
  refine ⟨((Below.refl _ _).alloc (Nat.le_refl _) _).alloc (by omega) _, arr_rep (e := e) ?_, arr_rep (e := e) ?_⟩
  · rw [Below.heap_alloc _ _ _ (by omega)]
    exact heap_alloc_new w _
  · rw [← s1]
    exact heap_alloc_new _ _
theorem SW.next {w wr w' : World} {f : Nat → W32} (h : SW w f wr) (hb : Below wr.heap.size wr w') : SW w f w' :=
  ⟨h.bel.trans (hb.mono h.bel.size), h.res.next hb h.res.lt, h.row.next hb h.row.lt⟩
theorem SW.put {w wr : World} {f : Nat → W32} (h : SW w f wr) (i : Nat) (x : W32) : SW w (upd f i x) (wr.setCell ⟨w.heap.size + 1, i, none⟩ (.int .u32 (nv x))) := by
  refine ⟨h.bel.setCell (by simp) _, ?_, h.row.set x⟩
  obtain ⟨cs, e, h1, h2, h3⟩ := h.res
  exact ⟨cs, e, (Below.heap_setCell _ _ _ _ (by simp)).trans h1, h2, h3⟩

theorem byteW_range (s : ByteArray) (i : Nat) : 0 ≤ nv (byteW s i) ∧ nv (byteW s i) ≤ 255 := by
  unfold nv byteW
  rw [BitVec.toNat_ofNat]
  have := (s.data.toList.getD i 0).toNat_lt
  have : (s.data.toList.getD i 0).toNat % 2 ^ 32 = (s.data.toList.getD i 0).toNat := Nat.mod_eq_of_lt (by omega)
  omega
theorem byteW_nv (s : ByteArray) (i : Nat) : nv (byteW s i) = ((s.data.toList.getD i 0).toNat : Int) := by
  unfold nv byteW
  rw [BitVec.toNat_ofNat]
  have := (s.data.toList.getD i 0).toNat_lt
  have : (s.data.toList.getD i 0).toNat % 2 ^ 32 = (s.data.toList.getD i 0).toNat := Nat.mod_eq_of_lt (by omega)
  omega
theorem nv_shl8 (x : W32) : nv x * (256 : Int) % (4294967296 : Int) = nv (x <<< (8 : Nat)) := nv_shl x 8
theorem nv_shr3 (x : W32) : nv x / (8 : Int) = nv (x >>> (3 : Nat)) := nv_shr x 3
theorem nv_shr10 (x : W32) : nv x / (1024 : Int) = nv (x >>> (10 : Nat)) := nv_shr x 10
def pw (s : ByteArray) (k : Nat) : Nat → W32
  | 0 => 0
  | j + 1 => pw s k j <<< 8 ||| byteW s (4 * k + j)
theorem pw_four (s : ByteArray) (k : Nat) : pw s k 4 = msgW s k := by
  unfold msgW
  simp only [pw, Nat.add_zero]
  have : (0 : W32) <<< 8 ||| byteW s (4 * k) = byteW s (4 * k) := by simp
  rw [this]
theorem sch_ge (m : Nat → W32) : ∀ (k i : Nat), k ≤ i → sch m k i = 0
  | 0, _, _ => rfl
  | k + 1, i, h => by
    show upd (sch m k) k _ i = 0
    unfold upd
    rw [if_neg (by omega)]
    exact sch_ge m k i (by omega)
theorem upd_same {f : Nat → W32} {i : Nat} {x : W32} (h : f i = x) : upd f i x = f := by
  funext j
  unfold upd
  split
  · rename_i e; rw [e, h]
  · rfl
theorem upd_upd (f : Nat → W32) (i : Nat) (x y : W32) : upd (upd f i x) i y = upd f i y := by
  funext j
  unfold upd
  split <;> rfl

/-- Four bytes of a text, in a row of their own. -/
theorem conv4 (s : ByteArray) (k : Nat) (hk : 4 * k + 4 ≤ s.size) (w : World) : ∃ c w', (convert 9 102 (.string (s.extract (4 * k) (4 * k + 4)))).run Tryz.prog w = .ok (.slice (some ⟨w.heap.size, 0, none⟩) 4 c) w' ∧ Below w.heap.size w w' ∧ 4 ≤ c ∧ c ≤ 9223372036854775807 ∧
    w.heap.size < w'.heap.size ∧ ∀ j, j < 4 → w'.cell? ⟨w.heap.size, j, none⟩ = some (.int .u8 (nv (byteW s (4 * k + j)))) := by
  have hsz : (s.extract (4 * k) (4 * k + 4)).size = 4 := by simp [ByteArray.size_extract]; omega
  have hr := run_bytes_of_string (P := Tryz.prog) w 9 102 5 (s.extract (4 * k) (4 * k + 4)) Tryz.underlying9 Tryz.underlying102 Tryz.underlying5
  rw [hsz] at hr
  have hc1 := grownCap_ge w 4 0 5
  have hc2 := grownCap_le_maxLen w 4 0 5 (by rw [maxLen_eq]; omega)
  rw [maxLen_eq] at hc2
  refine ⟨_, _, hr, (Below.refl _ _).drew.alloc (Nat.le_refl _) _, hc1, hc2, by simp, fun j hj => ?_⟩
  have hh : (w.drew.alloc (.cells (bytesRow (s.extract (4 * k) (4 * k + 4)) (grownCap w 4 0 5)) 5 ((bytesRow (s.extract (4 * k) (4 * k + 4)) (grownCap w 4 0 5)).size, (bytesRow (s.extract (4 * k) (4 * k + 4)) (grownCap w 4 0 5)).size + 1))).heap[w.heap.size]? = some (.cells (bytesRow (s.extract (4 * k) (4 * k + 4)) (grownCap w 4 0 5)) 5 ((bytesRow (s.extract (4 * k) (4 * k + 4)) (grownCap w 4 0 5)).size, (bytesRow (s.extract (4 * k) (4 * k + 4)) (grownCap w 4 0 5)).size + 1)) := heap_alloc_new w.drew _
  simp only [World.cell?, hh]
  rw [byteW_nv]
  unfold bytesRow
  rw [Array.getElem?_append_left (by rw [Array.size_map]; have : (s.extract (4 * k) (4 * k + 4)).data.size = 4 := hsz; omega)]
  rw [Array.getElem?_map]
  have h1 : (s.extract (4 * k) (4 * k + 4)).data[j]? = some (s.data.toList.getD (4 * k + j) 0) := by
    have hd : (s.extract (4 * k) (4 * k + 4)).data = s.data.extract (4 * k) (4 * k + 4) := by simp
    have hs2 : s.data.size = s.size := rfl
    rw [hd, Array.getElem?_extract, if_pos (by omega)]
    have hlt : 4 * k + j < s.data.size := by omega
    rw [Array.getElem?_eq_getElem hlt]
    simp [List.getD, Array.getElem?_eq_getElem hlt]
  rw [h1]
  rfl

attribute [-go_sem] loadCellsFrom
end Go.Proofs.YtmakghcoehkphaaGreat
end

section
/-
  SHA-256: numbers as bytes, the highest first. Conditions: none beyond each theorem's own.
-/
namespace Go.Proofs.YtmakghcoehkphaaGreat
open Go.RowKit Go.BigFrame
set_option linter.unusedVariables false
set_option linter.unusedSimpArgs false

/-- The lowest so many bytes of a number, the highest first. -/
def beL (n : Nat) : Nat → List UInt8
  | 0 => []
  | i + 1 => UInt8.ofNat (n / 256 ^ i) :: beL n i
theorem beL_len (n k : Nat) : (beL n k).length = k := by induction k with | zero => rfl | succ k ih => simp [beL, ih]

theorem info_u8b : (Tryz.prog.info? 5).map (fun i => (i.zero, i.size, i.bytes)) = some (some (.int .u8 0), 1, 1) := by kernel_rfl
theorem made_bytes (k : Nat) : (madeCells (Value.int .u8 0).cells (k * 1)).toList = bytesOf (List.replicate k 0) := by
  apply List.ext_getElem
  · simp [madeCells, bytesOf]
  · intro i h1 h2
    simp [madeCells, bytesOf, Value.cells, Nat.mod_one]
theorem bytesOf_set (l : List UInt8) (i : Nat) (b : UInt8) : (bytesOf l).set i (.int .u8 b.toNat) = bytesOf (l.set i b) := by simp [bytesOf, List.map_set]
theorem be_step (n k j : Nat) (h : j < k) : (List.replicate (k - j) (0 : UInt8) ++ beL n j).set (k - 1 - j) (UInt8.ofNat (n / 256 ^ j)) = List.replicate (k - (j + 1)) 0 ++ beL n (j + 1) := by
  obtain ⟨m, rfl⟩ : ∃ m, k = j + 1 + m := ⟨k - (j + 1), by omega⟩
  rw [show j + 1 + m - j = m + 1 by omega, show j + 1 + m - 1 - j = m by omega, show j + 1 + m - (j + 1) = m by omega]
  rw [List.replicate_succ', List.append_assoc, List.set_append_right _ _ (by simp)]
  simp [beL]

end Go.Proofs.YtmakghcoehkphaaGreat
end

section
/-
  strings.Builder (Bld), for the texts about sha. Conditions: none.
-/
namespace Go.Proofs.YtmakghcoehkphaaGreat
end Go.Proofs.YtmakghcoehkphaaGreat
end

section
/-
  strings.Builder's WriteString, once more: all blocks but the builder's own stay. Conditions: those of bwrite_any.
-/
namespace Go.Proofs.YtmakghcoehkphaaGreat
open Go.RowKit
set_option linter.unusedVariables false

/-- The builder's row is another block. -/
def RowNot (b X : Nat) (w : World) : Prop := ∀ (p v : Value) (T : TypeId) (f : Nat × Nat), w.heap[b]? = some (.cells #[p, v] T f) → v.ownBlock ≠ some X
/-- What isn't the builder's own stays. -/
def BKeep (b : Nat) (w w' : World) : Prop := ∀ X, X ≠ b → X < w.heap.size → RowNot b X w → w'.heap[X]? = w.heap[X]? ∧ RowNot b X w' ∧ X < w'.heap.size
theorem BKeep.refl (b : Nat) (w : World) : BKeep b w w := fun X h1 h2 h3 => ⟨rfl, h3, h2⟩
theorem BKeep.trans {b : Nat} {w1 w2 w3 : World} (h : BKeep b w1 w2) (k : BKeep b w2 w3) : BKeep b w1 w3 := fun X h1 h2 h3 => by
  obtain ⟨e1, r1, l1⟩ := h X h1 h2 h3
  obtain ⟨e2, r2, l2⟩ := k X h1 l1 r1
  exact ⟨e2.trans e1, r2, l2⟩
theorem BKeep.of_below {b : Nat} {w w' : World} (h : Below w.heap.size w w') (hb : b < w.heap.size) : BKeep b w w' := fun X h1 h2 h3 =>
  ⟨h.block X h2, fun p v T f e => h3 p v T f (by rw [← h.block b hb]; exact e), Nat.lt_of_lt_of_le h2 h.size⟩
theorem bcheck_x (B b : Nat) (bs : List Value) (w : World) (h : Lib.IsBuilder 105 5 B b bs w) :
    Calls Tryz.prog 87 #[.pointer (some ⟨b, 0, none⟩)] w fun e w' => e = .returned (.tuple #[]) ∧ Lib.BuilderAt 105 5 B b (.pointer (some ⟨b, 0, none⟩)) bs w' ∧ Below B w w' ∧ BKeep b w w' := by
  rcases h with h | h
  · refine (check_fresh b w h.cell0 h.shape h.frozen0).mono fun e w' ⟨h1, h2⟩ => ⟨h1, h2 ▸ h.used _, h2 ▸ (Below.refl B w).setCell (p := ⟨b, 0, none⟩) h.1 _, ?_⟩
    subst h2
    obtain ⟨hB, v, hbk, hown, hne⟩ := h
    intro X hX hl hr
    refine ⟨Below.heap_setCell _ _ _ _ hX, fun p v' T f e => ?_, by rw [World.size_setCell]; exact hl⟩
    rw [heap_setCell_at hbk] at e
    have e2 := Option.some.inj e
    injection e2 with e3 e4
    have e5 : v' = v := by
      have := congrArg (fun a => a.toList) e3
      simp at this
      exact this.2.symm
    subst e5
    exact hr _ _ _ _ hbk
  · exact (check_used b w h.cell0).mono fun e w' ⟨h1, h2⟩ => ⟨h1, h2 ▸ h, h2 ▸ Below.refl B _, h2 ▸ BKeep.refl b _⟩

set_option maxHeartbeats 1000000 in
set_option maxRecDepth 100000 in
theorem bwrite_x (B b : Nat) (l : List UInt8) (s : ByteArray) (w : World) (h : Lib.IsBuilder 105 5 B b (bytesOf l) w) (hlen : l.length + s.size ≤ 140737488355328) (hBw : B ≤ w.heap.size) :
    Calls Tryz.prog 57 #[.pointer (some ⟨b, 0, none⟩), .string s] w fun e w' => e = .returned (.tuple #[.int .i64 s.size, .nilIface]) ∧
      Lib.IsBuilder 105 5 B b (bytesOf (l ++ s.data.toList)) w' ∧ Below B w w' ∧ BKeep b w w' := by
  obtain ⟨i0, hi, hz0, hz1, hz2⟩ := info_parts info_u8b
  have HC := Lib.hid (bcheck_x B b (bytesOf l) w h)
  have HL := Lib.hid hlen
  clear h hlen
  go_enter Tryz.func57, Tryz.ntmps57
  go_wp2_with fail
  refine HC.out.mono ?_
  rintro e w1 ⟨rfl, hb1, hbl, hbk1⟩
  obtain ⟨hB, v, hbk, hown, hne⟩ := hb1
  have hlt := (Array.getElem?_eq_some_iff.1 hbk).1
  rw [bytesOf_length] at hown
  obtain ⟨a, c, rfl, -, -⟩ := ownsRow_shape hown
  obtain ⟨v', w2, hrun, hown', hgrow, hnew⟩ := append_own_src (P := Tryz.prog) w1 B 102 9 102 5 i0 _ 1 1 Tryz.underlying102 hi hz0 hz1 hz2 rfl _ _ _ hown (.string s) s.size (byteCells s) (Src.ofString w1 Tryz.underlying9 s)
    (by rw [maxLen_eq]; have := HL.out; omega) (by have := HL.out; omega) (Nat.le_trans hBw hbl.size)
  obtain ⟨a', c', rfl, -, -⟩ := ownsRow_shape hown'
  have hb2 : w2.heap[b]? = _ := (hgrow.block b hlt (fun e => hne e.symm)).trans hbk
  have h1 : w1.cell? ⟨b, 1, none⟩ = some (.slice a l.length c) := cell_at hbk
  have h2 : w2.cell? ⟨b, 1, none⟩ = some (.slice a l.length c) := cell_at hb2
  have h3 : w2.frozen? ⟨b, 1, none⟩ = false := free_at hb2
  have hne' : (Value.slice a' (l.length + s.size) c').ownBlock ≠ some b := by
    rcases hnew with e | e
    · rw [e]; exact hne
    · rw [e]; intro e'; cases e'; exact absurd hlt (Nat.lt_irrefl _)
  have hkp : BKeep b w (w2.setCell ⟨b, 1, none⟩ (.slice a' (l.length + s.size) c')) := by
    refine hbk1.trans fun X hX hl hr => ?_
    have hrX := hr _ _ _ _ hbk
    refine ⟨(Below.heap_setCell _ _ _ _ hX).trans (hgrow.block X hl (fun e => hrX e.symm)), fun p v T f e => ?_, by rw [World.size_setCell]; exact Nat.lt_of_lt_of_le hl hgrow.size⟩
    rw [heap_setCell_at hb2] at e
    have e2 := Option.some.inj e
    injection e2 with e3 e4
    have e5 : v = .slice a' (l.length + s.size) c' := by
      have := congrArg (fun a => a.toList) e3
      simp at this
      exact this.2.symm
    subst e5
    rcases hnew with e | e
    · rw [e]; exact hrX
    · rw [e]; intro e'; cases e'; exact absurd hl (Nat.lt_irrefl _)
  have hfin : Lib.IsBuilder 105 5 B b (bytesOf (l ++ s.data.toList)) (w2.setCell ⟨b, 1, none⟩ (.slice a' (l.length + s.size) c')) ∧ Below B w (w2.setCell ⟨b, 1, none⟩ (.slice a' (l.length + s.size) c')) ∧ BKeep b w (w2.setCell ⟨b, 1, none⟩ (.slice a' (l.length + s.size) c')) := by
    refine ⟨.inr ⟨hB, _, heap_setCell_at hb2, ?_, hne'⟩, (hbl.grown hgrow (Nat.le_trans hBw hbl.size) (fun k e => (hown.lt k e).1)).setCell (p := ⟨b, 1, none⟩) hB _, hkp⟩
    rw [bytesOf_length, List.length_append, data_len, bytesOf_append, ← byteCells_eq]
    exact ownsRow_of_block hown' fun k e => Below.heap_setCell _ _ _ _ (fun e' => hne' (by rw [e, e']))
  have HF := Lib.hid hfin
  have HR := Lib.hid hrun
  clear hfin hrun hown' hgrow hnew hbk hb2 hne hne' hown hi hz0 hz1 hz2 hkp hbk1
  go_wp2_with (at_builtin; refine wpList_append_run rfl (.tmp 12) (.tmp 13) 102 9 rfl rfl rfl HR.out ?_)
  go_ret2
  exact ⟨rfl, HF.out⟩
/-- A block that is made behind the builder isn't the builder's row. -/
theorem rowNot_new {T e B b : Nat} {bs : List Value} {w : World} {X : Nat} (h : Lib.IsBuilder T e B b bs w) (hX : w.heap.size ≤ X) : RowNot b X w := by
  intro p v T' f e' hv
  have key : ∀ q, Lib.BuilderAt T e B b q bs w → False := by
    rintro q ⟨-, v', hbk, hown, -⟩
    rw [hbk] at e'
    have e2 := Option.some.inj e'
    injection e2 with e3 e4
    have e5 : v' = v := by
      have := congrArg (fun a => a.toList) e3
      simp at this
      exact this.2
    subst e5
    have := (hown.lt X hv).2
    omega
  rcases h with h | h
  · exact key _ h
  · exact key _ h
theorem rowNot_new' {T e B b : Nat} {bs : List Value} {w w' : World} {X : Nat} (h : Lib.IsBuilder T e B b bs w) (hb : Below w.heap.size w w') (hX : w.heap.size ≤ X) (hlt : b < w.heap.size) : RowNot b X w' := fun p v T' f e =>
  rowNot_new h hX p v T' f (by rw [← hb.block b hlt]; exact e)
end Go.Proofs.YtmakghcoehkphaaGreat
end

section
/-
  vint.Put, counted, sized; a builder's parts. Conditions: those of each theorem.
-/
namespace Go.Proofs.YtmakghcoehkphaaGreat
open Go.RowKit Go.BigFrame
set_option linter.unusedVariables false
set_option linter.unusedSimpArgs false

def SIs (l : List UInt8) (w : World) (e : Ending) (w' : World) : Prop := e = .returned (.string (bL l)) ∧ Below w.heap.size w w'
theorem oput_any (n k : Nat) (hn : n < 18446744073709551616) (hk : okSize k) (w : World) : Calls Tryz.prog 58 #[.int .u64 n, .int .i64 k] w (SIs (leB n k) w) := put_any n k hn hk w
set_option maxHeartbeats 1000000 in
theorem vput_any (n : Nat) (hn : n < 18446744073709551616) (w : World) : Calls Tryz.prog 128 #[.int .u64 n] w (SIs (vintL n) w) := by
  have s1 : ∀ m, (bL (leB m 1)).size = 1 := fun m => by rw [bL_size, leB_length]
  have s2 : ∀ m, (bL (leB m 2)).size = 2 := fun m => by rw [bL_size, leB_length]
  have s4 : ∀ m, (bL (leB m 4)).size = 4 := fun m => by rw [bL_size, leB_length]
  have s8 : ∀ m, (bL (leB m 8)).size = 8 := fun m => by rw [bL_size, leB_length]
  by_cases h1 : n < 253
  · have hz : (n : Int) < 253 := by omega
    have HF := Lib.hid (show vintL n = leB n 1 by unfold vintL; rw [if_pos h1])
    clear h1
    go_enter Tryz.func128, Tryz.ntmps128
    go_wp2_with fail
    refine (oput_any n 1 hn (.inl rfl) w).mono ?_
    rintro e w1 ⟨rfl, hb⟩
    go_wp2_with fail
    go_ret
    exact ⟨by rw [HF.out]; rfl, hb⟩
  · have hz1 : ¬ (n : Int) < 253 := by omega
    by_cases h2 : n < 65536
    · have hz : (n : Int) < 65536 := by omega
      have HF := Lib.hid (show vintL n = leB 253 1 ++ leB n 2 by unfold vintL; rw [if_neg h1, if_pos h2])
      clear h1 h2
      go_enter Tryz.func128, Tryz.ntmps128
      go_wp2_with fail
      refine (oput_any 253 1 (by omega) (.inl rfl) w).mono ?_
      rintro e w1 ⟨rfl, hb⟩
      have HB := Lib.hid hb
      clear hb
      go_wp2_with fail
      refine (oput_any n 2 hn (.inr (.inl rfl)) w1).mono ?_
      rintro e w2 ⟨rfl, hb⟩
      have q1 := s1 253
      have q2 := s2 n
      go_wp2_with fail
      go_ret
      exact ⟨by rw [HF.out, ← bL_app]; rfl, HB.out.trans (hb.mono HB.out.size)⟩
    · have hz2 : ¬ (n : Int) < 65536 := by omega
      by_cases h3 : n < 4294967296
      · have hz : (n : Int) < 4294967296 := by omega
        have HF := Lib.hid (show vintL n = leB 254 1 ++ leB n 4 by unfold vintL; rw [if_neg h1, if_neg h2, if_pos h3])
        clear h1 h2 h3
        go_enter Tryz.func128, Tryz.ntmps128
        go_wp2_with fail
        refine (oput_any 254 1 (by omega) (.inl rfl) w).mono ?_
        rintro e w1 ⟨rfl, hb⟩
        have HB := Lib.hid hb
        clear hb
        go_wp2_with fail
        refine (oput_any n 4 hn (.inr (.inr (.inl rfl))) w1).mono ?_
        rintro e w2 ⟨rfl, hb⟩
        have q1 := s1 254
        have q2 := s4 n
        go_wp2_with fail
        go_ret
        exact ⟨by rw [HF.out, ← bL_app]; rfl, HB.out.trans (hb.mono HB.out.size)⟩
      · have hz : ¬ (n : Int) < 4294967296 := by omega
        have HF := Lib.hid (show vintL n = leB 255 1 ++ leB n 8 by unfold vintL; rw [if_neg h1, if_neg h2, if_neg h3])
        clear h1 h2 h3
        go_enter Tryz.func128, Tryz.ntmps128
        go_wp2_with fail
        refine (oput_any 255 1 (by omega) (.inl rfl) w).mono ?_
        rintro e w1 ⟨rfl, hb⟩
        have HB := Lib.hid hb
        clear hb
        go_wp2_with fail
        refine (oput_any n 8 hn (.inr (.inr (.inr rfl))) w1).mono ?_
        rintro e w2 ⟨rfl, hb⟩
        have q1 := s1 255
        have q2 := s8 n
        go_wp2_with fail
        go_ret
        exact ⟨by rw [HF.out, ← bL_app]; rfl, HB.out.trans (hb.mono HB.out.size)⟩
theorem orput_any (n k : Nat) (hn : n < 18446744073709551616) (hk : okSize k) (w : World) : Calls Tryz.prog 151 #[.int .u64 n, .int .i64 k] w (SIs (leB n k) w) := rput_any n k hn hk w
set_option maxHeartbeats 1000000 in
theorem rvput_any (n : Nat) (hn : n < 18446744073709551616) (w : World) : Calls Tryz.prog 132 #[.int .u64 n] w (SIs (vintL n) w) := by
  have s1 : ∀ m, (bL (leB m 1)).size = 1 := fun m => by rw [bL_size, leB_length]
  have s2 : ∀ m, (bL (leB m 2)).size = 2 := fun m => by rw [bL_size, leB_length]
  have s4 : ∀ m, (bL (leB m 4)).size = 4 := fun m => by rw [bL_size, leB_length]
  have s8 : ∀ m, (bL (leB m 8)).size = 8 := fun m => by rw [bL_size, leB_length]
  by_cases h1 : n < 253
  · have hz : (n : Int) < 253 := by omega
    have HF := Lib.hid (show vintL n = leB n 1 by unfold vintL; rw [if_pos h1])
    clear h1
    go_enter Tryz.func132, Tryz.ntmps132
    go_wp2_with fail
    refine (orput_any n 1 hn (.inl rfl) w).mono ?_
    rintro e w1 ⟨rfl, hb⟩
    go_wp2_with fail
    go_ret
    exact ⟨by rw [HF.out]; rfl, hb⟩
  · have hz1 : ¬ (n : Int) < 253 := by omega
    by_cases h2 : n < 65536
    · have hz : (n : Int) < 65536 := by omega
      have HF := Lib.hid (show vintL n = leB 253 1 ++ leB n 2 by unfold vintL; rw [if_neg h1, if_pos h2])
      clear h1 h2
      go_enter Tryz.func132, Tryz.ntmps132
      go_wp2_with fail
      refine (orput_any n 2 hn (.inr (.inl rfl)) w).mono ?_
      rintro e w2 ⟨rfl, hb⟩
      have q2 := s2 n
      have q1 : (⟨#[253]⟩ : ByteArray).size = 1 := rfl
      go_wp2_with fail
      go_ret
      exact ⟨by rw [HF.out, ← bL_app]; rfl, hb⟩
    · have hz2 : ¬ (n : Int) < 65536 := by omega
      by_cases h3 : n < 4294967296
      · have hz : (n : Int) < 4294967296 := by omega
        have HF := Lib.hid (show vintL n = leB 254 1 ++ leB n 4 by unfold vintL; rw [if_neg h1, if_neg h2, if_pos h3])
        clear h1 h2 h3
        go_enter Tryz.func132, Tryz.ntmps132
        go_wp2_with fail
        refine (orput_any n 4 hn (.inr (.inr (.inl rfl))) w).mono ?_
        rintro e w2 ⟨rfl, hb⟩
        have q2 := s4 n
        have q1 : (⟨#[254]⟩ : ByteArray).size = 1 := rfl
        go_wp2_with fail
        go_ret
        exact ⟨by rw [HF.out, ← bL_app]; rfl, hb⟩
      · have hz : ¬ (n : Int) < 4294967296 := by omega
        have HF := Lib.hid (show vintL n = leB 255 1 ++ leB n 8 by unfold vintL; rw [if_neg h1, if_neg h2, if_neg h3])
        clear h1 h2 h3
        go_enter Tryz.func132, Tryz.ntmps132
        go_wp2_with fail
        refine (orput_any n 8 hn (.inr (.inr (.inr rfl))) w).mono ?_
        rintro e w2 ⟨rfl, hb⟩
        have q2 := s8 n
        have q1 : (⟨#[255]⟩ : ByteArray).size = 1 := rfl
        go_wp2_with fail
        go_ret
        exact ⟨by rw [HF.out, ← bL_app]; rfl, hb⟩

theorem counted_any (n : Nat) (hn : n ≤ 9223372036854775807) (w : World) : Calls Tryz.prog 137 #[.int .i64 n] w (SIs (vintL n) w) := by
  have hlo : (0 : Int) ≤ n := by omega
  have hhi : (n : Int) ≤ 9223372036854775807 := by omega
  go_enter Tryz.func137, Tryz.ntmps137
  go_wp2_with fail
  refine (vput_any n (by omega) w).mono ?_
  rintro e w1 ⟨rfl, hb⟩
  go_wp2_with fail
  go_ret
  exact ⟨rfl, hb⟩
theorem sized_any (s : ByteArray) (hs : s.size ≤ 1000000) (w : World) : Calls Tryz.prog 138 #[.string s] w (SIs (sizedL s) w) := by
  have q1 : (bL (vintL s.size)).size ≤ 9 := by rw [bL_size]; exact vintL_le _
  go_enter Tryz.func138, Tryz.ntmps138
  go_wp2_with fail
  refine (counted_any s.size (by omega) w).mono ?_
  rintro e w1 ⟨rfl, hb⟩
  go_wp2_with fail
  go_ret
  exact ⟨by unfold sizedL; rw [← bL_app, bL_data]; rfl, hb⟩
/-- A builder has one part more. -/
def BPut (B b : Nat) (l : List UInt8) (w : World) (w' : World) : Prop := Lib.IsBuilder 105 5 B b (bytesOf l) w' ∧ Below B w w' ∧ BKeep b w w'
theorem eput_any (B b n k : Nat) (l : List UInt8) (hn : n < 18446744073709551616) (hk : okSize k) (w : World) (h : Lib.IsBuilder 105 5 B b (bytesOf l) w) (hl : l.length ≤ 1000000) (hB : B ≤ w.heap.size) :
    Calls Tryz.prog 136 #[.int .u64 n, .int .i64 k, .pointer (some ⟨b, 0, none⟩)] w fun e w' => (∃ v, e = .returned v) ∧ BPut B b (l ++ leB n k) w w' := by
  have HI := Lib.hid h
  have HBB := Lib.hid hB
  have hk8 : k ≤ 8 := by unfold okSize at hk; omega
  clear h hB
  go_enter Tryz.func136, Tryz.ntmps136
  go_wp2_with fail
  refine (oput_any n k hn hk w).mono ?_
  rintro e w1 ⟨rfl, hb⟩
  go_wp2_with fail
  refine (bwrite_x B b l (bL (leB n k)) w1 (isb_later HI.out hb) (by rw [bL_size, leB_length]; omega) (Nat.le_trans HBB.out hb.size)).mono ?_
  rintro e w2 ⟨rfl, hi, hb2, hk2⟩
  rw [bL_list] at hi
  have HF := Lib.hid (show BPut B b (l ++ leB n k) w w2 from ⟨hi, (hb.mono HBB.out).trans hb2, (BKeep.of_below hb (isb_lt HI.out).2).trans hk2⟩)
  clear hi hb hb2 hk2
  go_wp2_with fail
  exact bodyPost_end (v := .tuple #[]) (by kernel_rfl) rfl ⟨⟨_, rfl⟩, HF.out⟩
end Go.Proofs.YtmakghcoehkphaaGreat
end
