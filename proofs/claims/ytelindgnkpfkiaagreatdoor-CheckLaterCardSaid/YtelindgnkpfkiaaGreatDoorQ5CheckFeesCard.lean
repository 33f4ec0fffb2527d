/-
  CheckFeesCard, part 5: the texts Rl5, Ga, Gb, Gc, one after another. Conditions: none beyond those named at each.
-/
import Derived.Test.YtelindgnkpfkiaaGreatDoorQ4CheckFeesCard
import Derived.Test.YtelindgnkpfkiaaGreatDoorTxM
section
/-
  The document's order of points. Conditions: none.
-/
namespace Go.Proofs.YtelindgnkpfkiaaGreatDoor
open Go.RowKit Go.BigFrame
set_option linter.unusedVariables false
set_option linter.unusedSimpArgs false

theorem cmpB_zero : ∀ (a b : List UInt8), Lib.compareBytes a b = 0 ↔ a = b
  | [], [] => by simp [Lib.compareBytes]
  | [], _ :: _ => by simp [Lib.compareBytes]
  | _ :: _, [] => by simp [Lib.compareBytes]
  | a :: x, b :: y => by
    unfold Lib.compareBytes
    by_cases h1 : a < b
    · rw [if_pos h1]
      simp only [List.cons.injEq]
      constructor
      · intro h; omega
      · rintro ⟨rfl, -⟩; exact absurd h1 (UInt8.lt_irrefl _)
    · rw [if_neg h1]
      by_cases h2 : b < a
      · rw [if_pos h2]
        simp only [List.cons.injEq]
        constructor
        · intro h; omega
        · rintro ⟨rfl, -⟩; exact absurd h2 (UInt8.lt_irrefl _)
      · rw [if_neg h2, cmpB_zero x y]
        have : a = b := UInt8.le_antisymm (UInt8.not_lt.1 h2) (UInt8.not_lt.1 h1)
        subst this
        simp
theorem cmpB_neg : ∀ (a b : List UInt8), Lib.compareBytes b a = - Lib.compareBytes a b
  | [], [] => rfl
  | [], _ :: _ => rfl
  | _ :: _, [] => rfl
  | a :: x, b :: y => by
    unfold Lib.compareBytes
    by_cases h1 : a < b
    · have h2 : ¬ b < a := UInt8.not_lt.2 (UInt8.le_of_lt h1)
      simp only [if_pos h1, if_neg h2]; rfl
    · by_cases h2 : b < a
      · simp only [if_neg h1, if_pos h2]
      · rw [if_neg h1, if_neg h2, if_neg h2, if_neg h1, cmpB_neg x y]
theorem bytesLess_cmp : ∀ (a b : List UInt8), Op.bytesLess a b = decide (Lib.compareBytes a b < 0)
  | [], [] => rfl
  | [], _ :: _ => rfl
  | _ :: _, [] => rfl
  | a :: x, b :: y => by
    unfold Lib.compareBytes Op.bytesLess
    by_cases h1 : a < b
    · rw [if_pos h1]; simp [h1]
    · rw [if_neg h1]
      by_cases h2 : b < a
      · rw [if_pos h2]
        have : (a == b) = false := by
          rw [beq_eq_false_iff_ne]
          rintro rfl
          exact UInt8.lt_irrefl _ h2
        simp [h1, this]
      · rw [if_neg h2]
        have : a = b := UInt8.le_antisymm (UInt8.not_lt.1 h2) (UInt8.not_lt.1 h1)
        subst this
        rw [bytesLess_cmp x y]
        simp
theorem cmpN_neg (a b : Nat) : cmpN b a = - cmpN a b := by
  unfold cmpN
  by_cases h1 : a < b
  · have h2 : ¬ b < a := by omega
    simp only [if_pos h1, if_neg h2]; rfl
  · by_cases h2 : b < a
    · simp only [if_neg h1, if_pos h2]
    · rw [if_neg h1, if_neg h2, if_neg h2, if_neg h1]; rfl
theorem cmpN_zero (a b : Nat) : cmpN a b = 0 ↔ a = b := by
  unfold cmpN
  by_cases h1 : a < b
  · rw [if_pos h1]; constructor <;> intro h <;> omega
  · by_cases h2 : b < a
    · rw [if_neg h1, if_pos h2]; constructor <;> intro h <;> omega
    · rw [if_neg h1, if_neg h2]; constructor <;> intro h <;> omega
theorem orI_neg (x y : Int) : orI (-x) (-y) = - orI x y := by
  unfold orI
  by_cases h : x = 0
  · subst h; simp
  · rw [if_neg h, if_neg (by omega)]
theorem bytes_list {a b : ByteArray} (h : a.data.toList = b.data.toList) : a = b := by
  cases a; cases b
  simp at h
  rw [h]
theorem less_self (p : Pt) : lessPt p p = false := by
  unfold lessPt
  rw [(cmpB_zero _ _).2 rfl, (cmpN_zero _ _).2 rfl]
  rfl
theorem less_flip {p q : Pt} (h : p ≠ q) : (lessPt p q != lessPt q p) = true := by
  unfold lessPt
  rw [cmpB_neg q.1.data.toList p.1.data.toList, cmpN_neg q.2 p.2, orI_neg]
  have hz : orI (Lib.compareBytes q.1.data.toList p.1.data.toList) (cmpN q.2 p.2) ≠ 0 := by
    unfold orI
    intro h0
    by_cases h1 : Lib.compareBytes q.1.data.toList p.1.data.toList = 0
    · rw [if_pos h1] at h0
      exact h (Prod.ext (bytes_list ((cmpB_zero _ _).1 h1)).symm ((cmpN_zero _ _).1 h0).symm)
    · rw [if_neg h1] at h0
      exact h1 h0
  generalize orI (Lib.compareBytes q.1.data.toList p.1.data.toList) (cmpN q.2 p.2) = z at *
  by_cases hn : z < 0
  · rw [decide_eq_true hn, decide_eq_false (by omega)]; rfl
  · rw [decide_eq_false hn, decide_eq_true (by omega)]; rfl
theorem less_same {p q : Pt} (h : p.1 = q.1) : lessPt p q = decide (p.2 < q.2) := by
  unfold lessPt
  rw [h, (cmpB_zero _ _).2 rfl]
  unfold orI cmpN
  rw [if_pos rfl]
  by_cases h1 : p.2 < q.2
  · rw [if_pos h1, decide_eq_true h1]; rfl
  · rw [if_neg h1, decide_eq_false h1]
    by_cases h2 : q.2 < p.2
    · rw [if_pos h2]; rfl
    · rw [if_neg h2]; rfl
theorem less_apart {p q : Pt} (h : p.1 ≠ q.1) : lessPt p q = Op.bytesLess p.1.toList q.1.toList := by
  unfold lessPt
  rw [ByteArray.toList_eq, ByteArray.toList_eq, bytesLess_cmp]
  unfold orI
  rw [if_neg fun h0 => h (bytes_list ((cmpB_zero _ _).1 h0))]

set_option maxRecDepth 100000 in
set_option maxHeartbeats 1000000 in
theorem rless_any (p q : Pt) (w : World) : Calls Tryz.prog 64 #[.agg #[.string p.1, .int .u32 p.2], .agg #[.string q.1, .int .u32 q.2]] w (BIs (lessPt p q) w) := by
  obtain ⟨p1, p2⟩ := p
  obtain ⟨q1, q2⟩ := q
  dsimp only
  obtain ⟨r, hr⟩ : ∃ r, r = lessPt (p1, p2) (q1, q2) := ⟨_, rfl⟩
  rw [← hr]
  have HR := Lib.hid hr
  clear hr
  have hz1 := heap_alloc_new (w.alloc (.cells #[.string p1, .int .u32 p2] 46)) (.cells #[.string q1, .int .u32 q2] 46)
  have hz0 : ((w.alloc (.cells #[.string p1, .int .u32 p2] 46)).alloc (.cells #[.string q1, .int .u32 q2] 46)).heap[w.heap.size]? = some (.cells #[.string p1, .int .u32 p2] 46 (0, 0)) := by
    rw [Below.heap_alloc _ _ _ (by simp)]
    exact heap_alloc_new w _
  have hb : Below w.heap.size w ((w.alloc (.cells #[.string p1, .int .u32 p2] 46)).alloc (.cells #[.string q1, .int .u32 q2] 46)) := ((Below.refl _ _).alloc (Nat.le_refl _) _).alloc (by simp) _
  have s1 : (w.alloc (.cells #[.string p1, .int .u32 p2] 46)).heap.size = w.heap.size + 1 := by simp
  rw [s1] at hz1
  go_enter Tryz.func64, Tryz.ntmps64
  go_upto_region 1 with fail
  generalize (w.alloc (.cells #[.string p1, .int .u32 p2] 46)).alloc (.cells #[.string q1, .int .u32 q2] 46) = w0 at *
  have d0 : w0.cell? ⟨w.heap.size, 0, none⟩ = some (.string p1) := cell_at hz0
  have d1 : w0.cell? ⟨w.heap.size, 1, none⟩ = some (.int .u32 p2) := cell_at hz0
  have e0 : w0.cell? ⟨w.heap.size + 1, 0, none⟩ = some (.string q1) := cell_at hz1
  have e1 : w0.cell? ⟨w.heap.size + 1, 1, none⟩ = some (.int .u32 q2) := cell_at hz1
  have HB := Lib.hid hb
  clear hb hz0 hz1 s1
  by_cases h : p1 = q1
  · subst h
    have HE := Lib.hid (less_same (p := (p1, p2)) (q := (p1, q2)) rfl)
    go_wp2_with fail
    go_ret
    exact ⟨ret_bool (by rw [HR.out, HE.out]), HB.out⟩
  · have HE := Lib.hid (less_apart (p := (p1, p2)) (q := (q1, q2)) h)
    have hbe : (p1.toList == q1.toList) = false := by
      rw [ByteArray.toList_eq, ByteArray.toList_eq, beq_eq_false_iff_ne]
      exact fun h' => h (bytes_list h')
    go_wp2_with fail
    go_ret
    exact ⟨ret_bool (by rw [HR.out, HE.out]), HB.out⟩

/-! ### Spends -/
end Go.Proofs.YtelindgnkpfkiaaGreatDoor
end

section
/-
  Maps keyed by points, of any values: look-up, a new entry, an entry struck. Conditions: none beyond each theorem's own.
-/
namespace Go.Proofs.YtelindgnkpfkiaaGreatDoor
open Go.RowKit Go.BigFrame
set_option linter.unusedVariables false
set_option linter.unusedSimpArgs false

variable {α : Type}
def entsP (vv : α → Value) (l : List (Pt × α × Nat)) : List MapEntry := l.map fun e => ⟨ptV e.1, vv e.2.1, e.2.2⟩
def lkP (p : Pt) : Nat → List (Pt × α × Nat) → Option (Nat × α)
  | _, [] => none
  | i, x :: r => if p = x.1 then some (i, x.2.1) else lkP p (i + 1) r
theorem askP (vv : α → Value) (p : Pt) (w : World) : ∀ (l : List (Pt × α × Nat)) (i : Nat), (Instr.findAsking 46 (ptV p) (entsP vv l) i).run Tryz.prog w = .ok ((lkP p i l).map fun x => (x.1, vv x.2)) w
  | [], i => rfl
  | x :: r, i => by
    show (Instr.findAsking 46 (ptV p) (⟨ptV x.1, vv x.2.1, x.2.2⟩ :: entsP vv r) i).run Tryz.prog w = _
    unfold Instr.findAsking
    rw [Sem.run_bind, show Op.equal 46 (ptV p) (ptV x.1) = Op.equalIn 10000 46 (ptV p) (ptV x.1) from rfl, eqIn_pt]
    unfold lkP
    by_cases h : p = x.1
    · rw [if_pos h, decide_eq_true h]; rfl
    · rw [if_neg h, decide_eq_false h]
      exact askP vv p w r (i + 1)
theorem findP (vv : α → Value) (p : Pt) (w : World) (l : List (Pt × α × Nat)) : (Instr.findKey 46 (ptV p) (entsP vv l)).run Tryz.prog w = .ok ((lkP p 0 l).map fun x => (x.1, vv x.2)) w := by
  cases l with
  | nil => kernel_rfl
  | cons x r =>
    have h : (Instr.findKey 46 (ptV p) (entsP vv (x :: r))).run Tryz.prog w = (Instr.findAsking 46 (ptV p) (entsP vv (x :: r)) 0).run Tryz.prog w := by kernel_rfl
    exact h.trans (askP vv p w (x :: r) 0)
/-- The map of these points and values lies in the block; its clock. -/
def PMapAt (vv : α → Value) (w : World) (m : Nat) (l : List (Pt × α × Nat)) (c : Nat) : Prop := w.heap[m]? = some (.map (entsP vv l).toArray c)
/-- Each entry was born ahead of the clock, no two at one time; no two have one point. -/
structure PWf (l : List (Pt × α × Nat)) (c : Nat) : Prop where
  born : ∀ e ∈ l, e.2.2 < c
  keys : (l.map (·.1)).Nodup
theorem PMapAt.set {vv : α → Value} {w : World} {m : Nat} {l : List (Pt × α × Nat)} {c : Nat} (h : PMapAt vv w m l c) (l' : List (Pt × α × Nat)) (c' : Nat) : PMapAt vv (setB w m (.map (entsP vv l').toArray c')) m l' c' := by
  have hlt := (Array.getElem?_eq_some_iff.1 h).1
  unfold PMapAt setB
  simp [hlt]
/-- What a point has. -/
def getP (z : α) (p : Pt) (l : List (Pt × α × Nat)) : α × Bool := match lkP p 0 l with
  | some x => (x.2, true)
  | none => (z, false)
theorem lookupP {vv : α → Value} {w : World} {m : Nat} {l : List (Pt × α × Nat)} {c : Nat} {mt et : TypeId} {z : α} (hU : Tryz.prog.underlying mt = some (.map 46 et)) (hz : ∀ w : World, (zeroValue et).run Tryz.prog w = .ok (vv z) w) (h : PMapAt vv w m l c) (p : Pt) :
    (Instr.lookup mt (.map (some m)) (ptV p) true).run Tryz.prog w = .ok (.tuple #[vv (getP z p l).1, .bool (getP z p l).2]) w := by
  unfold Instr.lookup
  simp only [Sem.run_bind, run_underlying hU, Result.andThen_ok, getObj_at h, Sem.run_pure, check_pt, findP]
  unfold getP
  cases hl : lkP p 0 l with
  | none => simp [Sem.run_bind, hz, Result.andThen]
  | some x => simp [Sem.run_bind, Result.andThen]
theorem entsP_snoc (vv : α → Value) (l : List (Pt × α × Nat)) (e : Pt × α × Nat) : entsP vv (l ++ [e]) = entsP vv l ++ [⟨ptV e.1, vv e.2.1, e.2.2⟩] := by simp [entsP]
set_option maxRecDepth 100000 in
theorem entryP {vv : α → Value} {w : World} {m : Nat} {l : List (Pt × α × Nat)} {c : Nat} {mt et : TypeId} {z : α} (hU : Tryz.prog.underlying mt = some (.map 46 et)) (hz : ∀ w : World, (zeroValue et).run Tryz.prog w = .ok (vv z) w) (h : PMapAt vv w m l c) (p : Pt) (hn : lkP p 0 l = none) :
    (Instr.mapEntry mt (.map (some m)) (ptV p)).run Tryz.prog w = .ok (.tuple #[vv z, .int .i64 c]) (setB w m (.map (entsP vv (l ++ [(p, z, c)])).toArray (c + 1))) := by
  unfold Instr.mapEntry
  simp only [Sem.run_bind, run_underlying hU, Result.andThen_ok, getObj_at h, Sem.run_pure, check_pt, findP, hn]
  simp only [Option.map_none, Sem.run_bind, hz, Result.andThen_ok, setObj_map h, Sem.run_pure, goInt]
  congr 3
  rw [entsP_snoc]
  simp
theorem bornP (vv : α → Value) (p : Pt) (x : α) (c : Nat) : ∀ (l : List (Pt × α × Nat)), (∀ e ∈ l, e.2.2 < c) → (entsP vv (l ++ [(p, x, c)])).findIdx? (fun e => (e.born : Int) == (c : Int)) = some l.length
  | [], _ => by simp [entsP, List.findIdx?_cons]
  | y :: r, h => by
    have h1 := bornP vv p x c r (fun e he => h e (List.mem_cons_of_mem _ he))
    have h2 : ((y.2.2 : Int) == (c : Int)) = false := by
      rw [beq_eq_false_iff_ne]
      have := h y (by simp)
      omega
    show (⟨ptV y.1, vv y.2.1, y.2.2⟩ :: entsP vv (r ++ [(p, x, c)])).findIdx? _ = _
    rw [List.findIdx?_cons]
    simp only [h2, h1]
    rfl
theorem modify_lastP {β : Type} (f : β → β) (b : β) : ∀ l : List β, (l ++ [b]).modify l.length f = l ++ [f b]
  | [] => rfl
  | a :: r => by
    show a :: ((r ++ [b]).modify r.length f) = _
    rw [modify_lastP f b r]
    rfl
set_option maxRecDepth 100000 in
theorem storeP {vv : α → Value} {w : World} {m : Nat} {l : List (Pt × α × Nat)} {c c' : Nat} {mt : TypeId} {p : Pt} {z : α} (h : PMapAt vv w m (l ++ [(p, z, c)]) c') (hb : ∀ e ∈ l, e.2.2 < c) (x : α) :
    (Instr.entryStore mt (.map (some m)) (.int .i64 c) (vv x)).run Tryz.prog w = .ok () (setB w m (.map (entsP vv (l ++ [(p, x, c)])).toArray c')) := by
  have hb1 := bornP vv p z c l hb
  have hb2 : (entsP vv (l ++ [(p, z, c)])).toArray.findIdx? (fun e => (e.born : Int) == (c : Int)) = some l.length := by simpa using hb1
  have ha : (asInt (.int .i64 (c : Int))).run Tryz.prog w = .ok (c : Int) w := by kernel_rfl
  unfold Instr.entryStore
  simp only [Sem.run_bind, Result.andThen_ok, getObj_at h, ha, hb2, setObj_map h]
  congr 3
  have hl : (entsP vv l).length = l.length := by simp [entsP]
  rw [entsP_snoc, entsP_snoc, List.modify_toArray, ← hl, modify_lastP]
theorem eraseP (vv : α → Value) : ∀ (l : List (Pt × α × Nat)) (i : Nat), entsP vv (l.eraseIdx i) = (entsP vv l).eraseIdx i
  | [], i => by simp [entsP]
  | x :: r, 0 => rfl
  | x :: r, i + 1 => by
    show _ :: entsP vv (r.eraseIdx i) = _ :: (entsP vv r).eraseIdx i
    rw [eraseP vv r i]
theorem deleteP {vv : α → Value} {w : World} {m : Nat} {l : List (Pt × α × Nat)} {c : Nat} {mt et : TypeId} {ty : TypeId} {pt : TypeId} (hU : Tryz.prog.underlying mt = some (.map 46 et)) (h : PMapAt vv w m l c) (p : Pt) {i : Nat} {x : α} (hl : lkP p 0 l = some (i, x)) :
    (Builtin.delete_ #[mt, pt] ty #[.map (some m), ptV p]).run Tryz.prog w = .ok (.tuple #[]) (setB w m (.map (entsP vv (l.eraseIdx i)).toArray c)) := by
  unfold Builtin.delete_
  simp [Sem.run_bind, run_underlying hU, Result.andThen_ok, getObj_at h, Sem.run_pure, check_pt, findP, hl, setObj_map h]
  rw [eraseP]
end Go.Proofs.YtelindgnkpfkiaaGreatDoor
end

section
/-
  The set of coins: New, Get, Len, Total. Conditions: the set lies in memory.
-/
namespace Go.Proofs.YtelindgnkpfkiaaGreatDoor
open Go.RowKit Go.BigFrame
set_option linter.unusedVariables false
set_option linter.unusedSimpArgs false

structure PCn where
  val : Int
  script : ByteArray
  height : Int
def cnV (c : PCn) : Value := .agg #[.int .i64 c.val, .string c.script, .int .i64 c.height]
def noCn : PCn := ⟨0, ⟨#[]⟩, 0⟩
abbrev CL := List (Pt × PCn × Nat)
theorem zeroCn (w : World) : (zeroValue 50).run Tryz.prog w = .ok (cnV noCn) w := by kernel_rfl
theorem mapCn : Tryz.prog.underlying 103 = some (.map 46 50) := Tryz.underlying103
/-- The coins' values, and their sum. -/
structure CWf (l : CL) (tot : Int) : Prop where
  good : ∀ e ∈ l, goodA e.2.1.val = true
  sum : (l.map (·.2.1.val)).sum = tot
  tot : goodA tot = true
/-- The set: its box, its map. -/
structure CsAt (B : Nat) (w : World) (b m : Nat) (l : CL) (c : Nat) (tot : Int) : Prop where
  box : w.heap[b]? = some (.cells #[.map (some m), .int .i64 tot] 105 (0, 0))
  map : PMapAt cnV w m l c
  wf : PWf l c
  cwf : CWf l tot
  blo : B ≤ b
  mlo : B ≤ m
theorem CsAt.lt {B : Nat} {w : World} {b m : Nat} {l : CL} {c : Nat} {tot : Int} (h : CsAt B w b m l c tot) : b < w.heap.size ∧ m < w.heap.size := ⟨(Array.getElem?_eq_some_iff.1 h.box).1, (Array.getElem?_eq_some_iff.1 h.map).1⟩
theorem CsAt.ne {B : Nat} {w : World} {b m : Nat} {l : CL} {c : Nat} {tot : Int} (h : CsAt B w b m l c tot) : b ≠ m := fun e => by
  subst e
  have h1 : w.heap[b]? = some (.map (entsP cnV l).toArray c) := h.map
  rw [h.box] at h1
  cases h1
theorem CsAt.kept {B : Nat} {w w' : World} {b m : Nat} {l : CL} {c : Nat} {tot : Int} (h : CsAt B w b m l c tot) (hb : w'.heap[b]? = w.heap[b]?) (hm : w'.heap[m]? = w.heap[m]?) : CsAt B w' b m l c tot :=
  ⟨by rw [hb]; exact h.box, by unfold PMapAt; rw [hm]; exact h.map, h.wf, h.cwf, h.blo, h.mlo⟩
theorem CsAt.below {B : Nat} {w w' : World} {b m : Nat} {l : CL} {c : Nat} {tot : Int} (h : CsAt B w b m l c tot) (hb : Below w.heap.size w w') : CsAt B w' b m l c tot :=
  h.kept (hb.block _ h.lt.1) (hb.block _ h.lt.2)
set_option maxRecDepth 100000 in
set_option maxHeartbeats 2000000 in
theorem cnew_any (w : World) : Calls Tryz.prog 13 #[] w fun e w' => ∃ b m, e = .returned (.pointer (some ⟨b, 0, none⟩)) ∧ CsAt w.heap.size w' b m [] 0 0 ∧ Below w.heap.size w w' := by
  have hmm := @run_makeMap Tryz.prog
  go_enter Tryz.func13, Tryz.ntmps13
  go_wp2
  go_ret
  have h1 : ((w.alloc (.map #[] 0)).alloc (.cells #[.map (some w.heap.size), .int .i64 0] 105)).heap[w.heap.size + 1]? = some (.cells #[.map (some w.heap.size), .int .i64 0] 105 (0, 0)) := by
    have := heap_alloc_new (w.alloc (.map #[] 0)) (.cells #[.map (some w.heap.size), .int .i64 0] 105)
    rw [show (w.alloc (.map #[] 0)).heap.size = w.heap.size + 1 by simp] at this
    exact this
  have h2 : ((w.alloc (.map #[] 0)).alloc (.cells #[.map (some w.heap.size), .int .i64 0] 105)).heap[w.heap.size]? = some (.map #[] 0) :=
    (Below.heap_alloc _ _ _ (by simp)).trans (heap_alloc_new w (.map #[] 0))
  exact ⟨_, _, rfl, ⟨h1, h2, ⟨by simp, by simp⟩, ⟨by simp, rfl, by decide⟩, by omega, Nat.le_refl _⟩, ((Below.refl _ _).alloc (Nat.le_refl _) _).alloc (by simp) _⟩
set_option maxRecDepth 100000 in
set_option maxHeartbeats 2000000 in
theorem clen_any {B : Nat} {w : World} {b m : Nat} {l : CL} {c : Nat} {tot : Int} (h : CsAt B w b m l c tot) : Calls Tryz.prog 14 #[.pointer (some ⟨b, 0, none⟩)] w fun e w' => e = .returned (.int .i64 l.length) ∧ w = w' := by
  have c0 : w.cell? ⟨b, 0, none⟩ = some (.map (some m)) := cell_at h.box
  have hm : (Builtin.len_ #[103] 3 #[.map (some m)]).run Tryz.prog w = .ok (.int .i64 l.length) w := by
    unfold Builtin.len_
    simp [Sem.run_bind, run_underlying mapCn, Result.andThen_ok, getObj_at h.map, goInt, entsP]
  go_enter Tryz.func14, Tryz.ntmps14
  go_wp2
  go_ret
  exact ⟨rfl, rfl⟩
set_option maxRecDepth 100000 in
set_option maxHeartbeats 2000000 in
theorem ctotal_any {B : Nat} {w : World} {b m : Nat} {l : CL} {c : Nat} {tot : Int} (h : CsAt B w b m l c tot) : Calls Tryz.prog 20 #[.pointer (some ⟨b, 0, none⟩)] w fun e w' => e = .returned (.int .i64 tot) ∧ w = w' := by
  have c1 : w.cell? ⟨b, 1, none⟩ = some (.int .i64 tot) := cell_at h.box
  go_enter Tryz.func20, Tryz.ntmps20
  go_wp2
  go_ret
  exact ⟨rfl, rfl⟩
set_option maxRecDepth 100000 in
set_option maxHeartbeats 2000000 in
theorem cget_any {B : Nat} {w : World} {b m : Nat} {l : CL} {c : Nat} {tot : Int} (h : CsAt B w b m l c tot) (p : Pt) : Calls Tryz.prog 15 #[.pointer (some ⟨b, 0, none⟩), ptV p] w fun e w' => e = .returned (.tuple #[cnV (getP noCn p l).1, .bool (getP noCn p l).2]) ∧ Below w.heap.size w w' := by
  obtain ⟨r, hr⟩ : ∃ r, r = getP noCn p l := ⟨_, rfl⟩
  rw [← hr]
  have HR := Lib.hid hr
  clear hr
  unfold ptV
  go_enter Tryz.func15, Tryz.ntmps15
  go_upto_region 1 with fail
  obtain ⟨X, hX⟩ : ∃ q, q = w.heap.size := ⟨_, rfl⟩
  have hnews := new2 w X hX (.cells #[.string p.1, .int .u32 p.2] 46) (.cells #[.int .i64 0, .string ⟨#[]⟩, .int .i64 0] 50)
  rw [← hX]
  generalize ((w.alloc (.cells #[.string p.1, .int .u32 p.2] 46)).alloc (.cells #[.int .i64 0, .string ⟨#[]⟩, .int .i64 0] 50)) = w0 at *
  obtain ⟨hz0, hz1, hal⟩ := hnews
  have HB0 := Lib.hid hal
  have HZ0 := Lib.hid hz0
  have HZ1 := Lib.hid hz1
  have hXw : w.heap.size ≤ X + 1 := by omega
  have h0 := h.below hal
  have f1 := lookupP mapCn zeroCn (show PMapAt cnV w0.drew m l c from h0.map) p
  have f2 := fun o => lookupP mapCn zeroCn (show PMapAt cnV (w0.alloc o).drew m l c from (h0.below ((Below.refl _ _).alloc (Nat.le_refl _) o)).map) p
  have c0 : w0.cell? ⟨b, 0, none⟩ = some (.map (some m)) := cell_at h0.box
  have c0' : ∀ o, (w0.alloc o).cell? ⟨b, 0, none⟩ = some (.map (some m)) := fun o => cell_at (h0.below ((Below.refl _ _).alloc (Nat.le_refl _) o)).box
  have p0 : w0.cell? ⟨X, 0, none⟩ = some (.string p.1) := cell_at hz0
  have p1 : w0.cell? ⟨X, 1, none⟩ = some (.int .u32 p.2) := cell_at hz0
  have p0' : ∀ o, (w0.alloc o).cell? ⟨X, 0, none⟩ = some (.string p.1) := fun o => cell_over p0 o
  have p1' : ∀ o, (w0.alloc o).cell? ⟨X, 1, none⟩ = some (.int .u32 p.2) := fun o => cell_over p1 o
  rw [← HR.out] at f1 f2
  unfold ptV at f1 f2
  unfold cnV at f1 f2
  clear hz0 hz1 hal h h0 hX
  go_upto_region 3 with fail
  go_region
  have hz2 := heap_alloc_new w0 (.cells #[.int .i64 r.1.val, .string r.1.script, .int .i64 r.1.height] 50)
  have hb2 : Below w0.heap.size w0 (w0.alloc (.cells #[.int .i64 r.1.val, .string r.1.script, .int .i64 r.1.height] 50)).drew := ((Below.refl _ _).alloc (Nat.le_refl _) _).drew
  have hX3 : X + 1 < w0.heap.size := (Array.getElem?_eq_some_iff.1 HZ1.out).1
  have HB1 := Lib.hid (HB0.out.trans (hb2.mono HB0.out.size))
  have HZ2 : Hid ((w0.alloc (.cells #[.int .i64 r.1.val, .string r.1.script, .int .i64 r.1.height] 50)).drew.heap[w0.heap.size]? = _) := Lib.hid hz2
  have HZ1 := Lib.hid (stay HZ1.out hb2)
  generalize (w0.alloc (.cells #[.int .i64 r.1.val, .string r.1.script, .int .i64 r.1.height] 50)).drew = w1 at *
  obtain ⟨V, hV⟩ : ∃ V, V = w0.heap.size := ⟨_, rfl⟩
  rw [← hV] at HZ2 hX3 ⊢
  have v0 : w1.cell? ⟨V, 0, none⟩ = some (.int .i64 r.1.val) := cell_at HZ2.out
  have v1 : w1.cell? ⟨V, 1, none⟩ = some (.string r.1.script) := cell_at HZ2.out
  have v2 : w1.cell? ⟨V, 2, none⟩ = some (.int .i64 r.1.height) := cell_at HZ2.out
  have y0 : w1.cell? ⟨X + 1, 0, none⟩ = some (.int .i64 0) := cell_at HZ1.out
  have y1 : w1.cell? ⟨X + 1, 1, none⟩ = some (.string ⟨#[]⟩) := cell_at HZ1.out
  have y2 : w1.cell? ⟨X + 1, 2, none⟩ = some (.int .i64 0) := cell_at HZ1.out
  have g0 : w1.frozen? ⟨X + 1, 0, none⟩ = false := free_at HZ1.out
  have g1 : w1.frozen? ⟨X + 1, 1, none⟩ = false := free_at HZ1.out
  have g2 : w1.frozen? ⟨X + 1, 2, none⟩ = false := free_at HZ1.out
  clear hz2 hb2 hV f1 f2 c0 c0' p0 p1 p0' p1'
  go_wp2_with fail
  have q0 := heap_setCell_at (j := 0) (u := .int .i64 r.1.val) HZ1.out
  have q1 := heap_setCell_at (j := 1) (u := .string r.1.script) q0
  have q2 := heap_setCell_at (j := 2) (u := .int .i64 r.1.height) q1
  have hb3 := ((HB1.out.setCell (p := ⟨X + 1, 0, none⟩) hXw (.int .i64 r.1.val)).setCell (p := ⟨X + 1, 1, none⟩) hXw (.string r.1.script)).setCell (p := ⟨X + 1, 2, none⟩) hXw (.int .i64 r.1.height)
  generalize ((w1.setCell ⟨X + 1, 0, none⟩ (.int .i64 r.1.val)).setCell ⟨X + 1, 1, none⟩ (.string r.1.script)).setCell ⟨X + 1, 2, none⟩ (.int .i64 r.1.height) = w2 at *
  have x0 : w2.cell? ⟨X + 1, 0, none⟩ = some (.int .i64 r.1.val) := cell_at q2
  have x1 : w2.cell? ⟨X + 1, 1, none⟩ = some (.string r.1.script) := cell_at q2
  have x2 : w2.cell? ⟨X + 1, 2, none⟩ = some (.int .i64 r.1.height) := cell_at q2
  exact bodyPost_ret (v := .tuple #[cnV r.1, .bool r.2]) (by simp [results, Tryz.results15, go_sem, x0, x1, x2, cnV]) rfl ⟨rfl, hb3⟩
def formedC (p : Pt) (c : PCn) : Bool := decide (p.1.size = 32) && (decide (0 ≤ c.height) && (decide (c.height ≤ 1000000) && goodA c.val))
set_option maxRecDepth 100000 in
set_option maxHeartbeats 2000000 in
theorem cformed_any (p : Pt) (c : PCn) (w : World) : Calls Tryz.prog 37 #[ptV p, cnV c] w fun e w' => e = .returned (.bool (formedC p c)) ∧ Below w.heap.size w w' := by
  have HG := Lib.hid (fun x w => good_any x w)
  have HF := Lib.hid (show formedC p c = (decide (p.1.size = 32) && (decide (0 ≤ c.height) && (decide (c.height ≤ 1000000) && goodA c.val))) from rfl)
  generalize formedC p c = r at *
  unfold ptV cnV
  go_enter Tryz.func37, Tryz.ntmps37
  go_upto_region 1 with fail
  obtain ⟨X, hX⟩ : ∃ q, q = w.heap.size := ⟨_, rfl⟩
  have hnews := new2 w X hX (.cells #[.string p.1, .int .u32 p.2] 46) (.cells #[.int .i64 c.val, .string c.script, .int .i64 c.height] 50)
  rw [← hX]
  generalize ((w.alloc (.cells #[.string p.1, .int .u32 p.2] 46)).alloc (.cells #[.int .i64 c.val, .string c.script, .int .i64 c.height] 50)) = w0 at *
  obtain ⟨hz0, hz1, hal⟩ := hnews
  have HB := Lib.hid hal
  have c0 : w0.cell? ⟨X, 0, none⟩ = some (.string p.1) := cell_at hz0
  have d0 : w0.cell? ⟨X + 1, 0, none⟩ = some (.int .i64 c.val) := cell_at hz1
  have d2 : w0.cell? ⟨X + 1, 2, none⟩ = some (.int .i64 c.height) := cell_at hz1
  clear hz0 hz1 hal hX
  by_cases h1 : p.1.size = 32
  · have e1 : ((p.1.size : Int) == 32) = true := by rw [beq_iff_eq]; omega
    rw [decide_eq_true h1, Bool.true_and] at HF
    by_cases h2 : 0 ≤ c.height
    · have e2 : decide (0 ≤ c.height) = true := decide_eq_true h2
      rw [e2, Bool.true_and] at HF
      by_cases h3 : c.height ≤ 1000000
      · have e3 : decide (c.height ≤ 1000000) = true := decide_eq_true h3
        rw [e3, Bool.true_and] at HF
        have HG := Lib.hid (HG.out c.val)
        generalize goodA c.val = g at *
        go_wp2_with (go_at_call 66; refine (HG.out w0).mono ?_; rintro e w' ⟨rfl, rfl⟩)
        go_ret
        exact ⟨ret_bool HF.out.symm, HB.out⟩
      · have e3 : decide (c.height ≤ 1000000) = false := decide_eq_false h3
        rw [e3, Bool.false_and] at HF
        go_wp2
        go_ret
        exact ⟨ret_bool HF.out.symm, HB.out⟩
    · have e2 : decide (0 ≤ c.height) = false := decide_eq_false h2
      rw [e2, Bool.false_and] at HF
      go_wp2
      go_ret
      exact ⟨ret_bool HF.out.symm, HB.out⟩
  · have e1 : ((p.1.size : Int) == 32) = false := by rw [beq_eq_false_iff_ne]; omega
    rw [decide_eq_false h1, Bool.false_and] at HF
    go_wp2
    go_ret
    exact ⟨ret_bool HF.out.symm, HB.out⟩
end Go.Proofs.YtelindgnkpfkiaaGreatDoor
end

section
/-
  The set of coins: Put, Take. Conditions: the set lies in memory.
-/
namespace Go.Proofs.YtelindgnkpfkiaaGreatDoor
open Go.RowKit Go.BigFrame
set_option linter.unusedVariables false
set_option linter.unusedSimpArgs false

theorem Fr.setB {F : List Nat} (a : World) (m : Nat) (o : Obj) (hm : m ∈ F) : Fr F a (setB a m o) :=
  ⟨rfl, rfl, rfl, by simp [Go.Proofs.YtelindgnkpfkiaaGreatDoor.setB], fun k _ hn => by
    unfold Go.Proofs.YtelindgnkpfkiaaGreatDoor.setB
    simp only
    rw [Array.getElem?_setIfInBounds_ne (show m ≠ k from fun e => hn (e ▸ hm))]⟩
theorem Fr.bels {F : List Nat} {w w' : World} (hb : Below w.heap.size w w') : Fr F w w' := Fr.of_below hb F
theorem setB_same {w : World} {m : Nat} {o o' : Obj} (h : w.heap[m]? = some o) : (setB w m o').heap[m]? = some o' := by
  have hlt := (Array.getElem?_eq_some_iff.1 h).1
  simp [setB, hlt]
theorem setB_other {w : World} {m k : Nat} {o' : Obj} (h : k ≠ m) : (setB w m o').heap[k]? = w.heap[k]? := by
  unfold setB
  simp only
  rw [Array.getElem?_setIfInBounds_ne (Ne.symm h)]
theorem Fr.transF {F : List Nat} {a b c : World} (h : Fr F a b) (k : Fr F b c) : Fr F a c := h.trans (Onto.refl _ _) k
/-- What Put answers. -/
def putE (l : CL) (tot : Int) (p : Pt) (x : PCn) : Int := if formedC p x = false then 2 else if (getP noCn p l).2 = true then 7 else (addA tot x.val).2
def PutIs (B b m : Nat) (l : CL) (c : Nat) (tot : Int) (p : Pt) (x : PCn) (w : World) (e : Ending) (w' : World) : Prop :=
  e = .returned (.int .i64 (putE l tot p x)) ∧ Fr [b, m] w w' ∧ if putE l tot p x = 0 then CsAt B w' b m (l ++ [(p, x, c)]) (c + 1) (tot + x.val) else CsAt B w' b m l c tot
theorem PutIs.no {B b m : Nat} {l : CL} {c : Nat} {tot : Int} {p : Pt} {x : PCn} {w w' : World} {n : Int} (hn : putE l tot p x = n) (h0 : n ≠ 0) (h : CsAt B w b m l c tot) (hb : Below w.heap.size w w') : PutIs B b m l c tot p x w (.returned (.int .i64 n)) w' := by
  unfold PutIs
  rw [hn, if_neg h0]
  exact ⟨rfl, Fr.of_below hb _, h.below hb⟩
theorem lkP_none {α : Type} {z : α} {p : Pt} {l : List (Pt × α × Nat)} (h : (getP z p l).2 = false) : lkP p 0 l = none := by
  unfold getP at h
  split at h
  · cases h
  · assumption
theorem lkP_mem {α : Type} (p : Pt) : ∀ (l : List (Pt × α × Nat)) (i : Nat), lkP p i l = none → p ∉ l.map (·.1)
  | [], i, _ => by simp
  | x :: r, i, h => by
    unfold lkP at h
    by_cases hp : p = x.1
    · rw [if_pos hp] at h; cases h
    · rw [if_neg hp] at h
      have := lkP_mem p r (i + 1) h
      simp only [List.map_cons, List.mem_cons, not_or]
      exact ⟨hp, this⟩
theorem PWf.snoc {α : Type} {l : List (Pt × α × Nat)} {c : Nat} (h : PWf l c) {p : Pt} (hp : p ∉ l.map (·.1)) (x : α) : PWf (l ++ [(p, x, c)]) (c + 1) := by
  refine ⟨fun e he => ?_, ?_⟩
  · rcases List.mem_append.1 he with he | he
    · have := h.born e he; omega
    · rw [List.mem_singleton.1 he]; exact Nat.lt_succ_self c
  · rw [List.map_append, List.nodup_append]
    refine ⟨h.keys, by simp, ?_⟩
    intro a ha b hb
    rw [List.map_cons, List.map_nil, List.mem_singleton] at hb
    subst hb
    exact fun e => hp (e ▸ ha)
theorem CWf.snoc {l : CL} {tot : Int} (h : CWf l tot) {p : Pt} {x : PCn} {c : Nat} (ha : (addA tot x.val).2 = 0) : CWf (l ++ [(p, x, c)]) (tot + x.val) := by
  obtain ⟨h1, h2, h3⟩ := addA_ok ha
  refine ⟨fun e he => ?_, ?_, by rw [← h3]; exact h1⟩
  · rcases List.mem_append.1 he with he | he
    · exact h.good e he
    · rw [List.mem_singleton.1 he]; exact h2
  · rw [List.map_append, List.sum_append, h.sum]
    simp
set_option maxRecDepth 100000 in
set_option maxHeartbeats 4000000 in
theorem cput_any {B : Nat} {w : World} {b m : Nat} {l : CL} {c : Nat} {tot : Int} (h : CsAt B w b m l c tot) (p : Pt) (x : PCn) : Calls Tryz.prog 11 #[.pointer (some ⟨b, 0, none⟩), ptV p, cnV x] w (PutIs B b m l c tot p x w) := by
  have H := Lib.hid h
  have HQF := Lib.hid (fun y => cformed_any p x y)
  have HQA := Lib.hid (fun y => add_any tot x.val h.cwf.tot y)
  unfold ptV cnV at HQF
  unfold ptV cnV
  go_enter Tryz.func11, Tryz.ntmps11
  go_upto_region 1 with fail
  obtain ⟨X, hX⟩ : ∃ q, q = w.heap.size := ⟨_, rfl⟩
  have hnews := new2 w X hX (.cells #[.string p.1, .int .u32 p.2] 46) (.cells #[.int .i64 x.val, .string x.script, .int .i64 x.height] 50)
  rw [← hX]
  generalize ((w.alloc (.cells #[.string p.1, .int .u32 p.2] 46)).alloc (.cells #[.int .i64 x.val, .string x.script, .int .i64 x.height] 50)) = w0 at *
  obtain ⟨hz0, hz1, hal⟩ := hnews
  have HB0 := Lib.hid hal
  have HZ0 := Lib.hid hz0
  have HZ1 := Lib.hid hz1
  have H0 := Lib.hid (h.below hal)
  have hX2 : w.heap.size ≤ X := by omega
  have p0 : w0.cell? ⟨X, 0, none⟩ = some (.string p.1) := cell_at hz0
  have p1 : w0.cell? ⟨X, 1, none⟩ = some (.int .u32 p.2) := cell_at hz0
  have d0 : w0.cell? ⟨X + 1, 0, none⟩ = some (.int .i64 x.val) := cell_at hz1
  have d1 : w0.cell? ⟨X + 1, 1, none⟩ = some (.string x.script) := cell_at hz1
  have d2 : w0.cell? ⟨X + 1, 2, none⟩ = some (.int .i64 x.height) := cell_at hz1
  clear hz0 hz1 hal h hX
  go_wp2_with fail
  refine (HQF.out w0).mono ?_
  rintro e w1 ⟨rfl, hb⟩
  have HB1 := Lib.hid (HB0.out.trans (hb.mono HB0.out.size))
  have H1 := Lib.hid (H0.out.below hb)
  have HZ0 := Lib.hid (stay HZ0.out hb)
  have HZ1 := Lib.hid (stay HZ1.out hb)
  replace p0 := below_cells hb _ _ p0
  replace p1 := below_cells hb _ _ p1
  replace d0 := below_cells hb _ _ d0
  replace d1 := below_cells hb _ _ d1
  replace d2 := below_cells hb _ _ d2
  clear hb
  by_cases hf : formedC p x = true
  · rw [hf]
    have HF := Lib.hid hf
    have f1 := lookupP mapCn zeroCn (show PMapAt cnV w1.drew m l c from H1.out.map) p
    have f2 := fun o => lookupP mapCn zeroCn (show PMapAt cnV (w1.alloc o).drew m l c from (H1.out.below ((Below.refl _ _).alloc (Nat.le_refl _) o)).map) p
    have c0 : w1.cell? ⟨b, 0, none⟩ = some (.map (some m)) := cell_at H1.out.box
    have c0' : ∀ o, (w1.alloc o).cell? ⟨b, 0, none⟩ = some (.map (some m)) := fun o => cell_at (H1.out.below ((Below.refl _ _).alloc (Nat.le_refl _) o)).box
    have p0' : ∀ o, (w1.alloc o).cell? ⟨X, 0, none⟩ = some (.string p.1) := fun o => cell_over p0 o
    have p1' : ∀ o, (w1.alloc o).cell? ⟨X, 1, none⟩ = some (.int .u32 p.2) := fun o => cell_over p1 o
    obtain ⟨r, hr⟩ : ∃ r, r = getP noCn p l := ⟨_, rfl⟩
    rw [← hr] at f1 f2
    have HR := Lib.hid hr
    unfold ptV cnV at f1 f2
    clear hr hf
    go_upto_region 5 with fail
    go_region
    have hb2 : Below w1.heap.size w1 (w1.alloc (.cells #[.int .i64 r.1.val, .string r.1.script, .int .i64 r.1.height] 50)).drew := ((Below.refl _ _).alloc (Nat.le_refl _) _).drew
    have HB2 := Lib.hid (HB1.out.trans (hb2.mono HB1.out.size))
    have H2 := Lib.hid (H1.out.below hb2)
    have HZ0 := Lib.hid (stay HZ0.out hb2)
    have HZ1 := Lib.hid (stay HZ1.out hb2)
    generalize (w1.alloc (.cells #[.int .i64 r.1.val, .string r.1.script, .int .i64 r.1.height] 50)).drew = w2 at *
    clear hb2 f1 f2 c0 c0' p0' p1' p0 p1 d0 d1 d2
    by_cases hfd : r.2 = true
    · rw [hfd]
      have HE := Lib.hid (show putE l tot p x = 7 by unfold putE; rw [if_neg (by rw [HF.out]; decide), ← HR.out, if_pos hfd])
      clear hfd
      go_wp2_with fail
      go_ret
      exact PutIs.no HE.out (by decide) H.out HB2.out
    · have hfn : r.2 = false := by simpa using hfd
      have hnone : lkP p 0 l = none := lkP_none (z := noCn) (by rw [← HR.out]; exact hfn)
      have HE := Lib.hid (show putE l tot p x = (addA tot x.val).2 by unfold putE; rw [if_neg (by rw [HF.out]; decide), ← HR.out, if_neg hfd])
      rw [hfn]
      have HNO := Lib.hid hnone
      have c1 : w2.cell? ⟨b, 1, none⟩ = some (.int .i64 tot) := cell_at H2.out.box
      have d0 : w2.cell? ⟨X + 1, 0, none⟩ = some (.int .i64 x.val) := cell_at HZ1.out
      clear hfd hfn hnone
      go_upto_region 8 with fail
      obtain ⟨C, hC⟩ : ∃ C : World → Prop, C = fun w' => Below w2.heap.size w2 w' := ⟨_, rfl⟩
      have kc1 := kin_cell hC c1
      have kd0 := kin_cell hC d0
      have QA := Lib.hid (kin_call hC fun y h => (HQA.out y).mono fun e w' ⟨h1, h2⟩ => ⟨h1, h2 ▸ Below.refl _ _⟩)
      have HC := Lib.hid hC
      clear hC
      refine wp_region_kin C (by kernel_rfl) (by kernel_rfl) (by rw [HC.out]; exact ⟨rfl, rfl, rfl, Nat.le_refl _, fun _ _ => rfl⟩) ?_
      intro hne
      repeat (first | (go_big_quiet_step ((rename_i y; go_at_call 38; exact Calls.kin (QA.out y) (fun w' h => h)))) | (quiet_step ((rename_i y; go_at_call 38; exact Calls.kin (QA.out y) (fun w' h => h)))))
      refine wpQuiet_nil ?_
      intro _ hw'
      obtain ⟨kx, hw''⟩ := hw'
      subst hw''
      obtain ⟨w3, hxc⟩ := kx
      rw [HC.out] at hxc
      clear HC hne kc1 kd0
      have HB3 := Lib.hid (HB2.out.trans (hxc.mono HB2.out.size))
      have H3 := Lib.hid (H2.out.below hxc)
      have HZ0 := Lib.hid (stay HZ0.out hxc)
      have HZ1 := Lib.hid (stay HZ1.out hxc)
      clear hxc c1 d0
      by_cases hadd : (addA tot x.val).2 = 0
      · obtain ⟨-, -, hs⟩ := addA_ok hadd
        have HAD := Lib.hid hadd
        rw [hadd, hs]
        clear hadd hs
        have hmd : PMapAt cnV w3.drew m l c := H3.out.map
        have f3 := entryP mapCn zeroCn hmd p HNO.out
        have hm2 := hmd.set (l ++ [(p, noCn, c)]) (c + 1)
        obtain ⟨wy, hwy⟩ : ∃ wy, wy = setB w3.drew m (.map (entsP cnV (l ++ [(p, noCn, c)])).toArray (c + 1)) := ⟨_, rfl⟩
        rw [← hwy] at f3 hm2
        have f4 := storeP (mt := 103) hm2 H3.out.wf.born x
        have hm3 := hm2.set (l ++ [(p, x, c)]) (c + 1)
        obtain ⟨wz, hwz⟩ : ∃ wz, wz = setB wy m (.map (entsP cnV (l ++ [(p, x, c)])).toArray (c + 1)) := ⟨_, rfl⟩
        rw [← hwz] at f4 hm3
        have hbm := H3.out.ne
        have hX3 : X + 1 < w3.heap.size := (Array.getElem?_eq_some_iff.1 HZ1.out).1
        have hXm : X ≠ m ∧ X + 1 ≠ m := by have := H.out.lt.2; omega
        have hXb : X ≠ b ∧ X + 1 ≠ b := by have := H.out.lt.1; omega
        have y0 : wy.heap[X]? = w3.heap[X]? := by rw [hwy, setB_other hXm.1]; rfl
        have y1 : wy.heap[X + 1]? = w3.heap[X + 1]? := by rw [hwy, setB_other hXm.2]; rfl
        have yb : wy.heap[b]? = w3.heap[b]? := by rw [hwy, setB_other hbm]; rfl
        have z0 : wz.heap[X]? = w3.heap[X]? := by rw [hwz, setB_other hXm.1, y0]
        have z1 : wz.heap[X + 1]? = w3.heap[X + 1]? := by rw [hwz, setB_other hXm.2, y1]
        have zb : wz.heap[b]? = w3.heap[b]? := by rw [hwz, setB_other hbm, yb]
        have c0 : w3.cell? ⟨b, 0, none⟩ = some (.map (some m)) := cell_at H3.out.box
        have p0 : w3.cell? ⟨X, 0, none⟩ = some (.string p.1) := cell_at HZ0.out
        have p1 : w3.cell? ⟨X, 1, none⟩ = some (.int .u32 p.2) := cell_at HZ0.out
        have d0 : w3.cell? ⟨X + 1, 0, none⟩ = some (.int .i64 x.val) := cell_at HZ1.out
        have d1 : w3.cell? ⟨X + 1, 1, none⟩ = some (.string x.script) := cell_at HZ1.out
        have d2 : w3.cell? ⟨X + 1, 2, none⟩ = some (.int .i64 x.height) := cell_at HZ1.out
        have d0y : wy.cell? ⟨X + 1, 0, none⟩ = some (.int .i64 x.val) := cell_at (y1.trans HZ1.out)
        have d1y : wy.cell? ⟨X + 1, 1, none⟩ = some (.string x.script) := cell_at (y1.trans HZ1.out)
        have d2y : wy.cell? ⟨X + 1, 2, none⟩ = some (.int .i64 x.height) := cell_at (y1.trans HZ1.out)
        have c1z : wz.cell? ⟨b, 1, none⟩ = some (.int .i64 tot) := cell_at (zb.trans H3.out.box)
        have g1z : wz.frozen? ⟨b, 1, none⟩ = false := free_at (zb.trans H3.out.box)
        have HFR := Lib.hid (show Fr [b, m] w (wz.setCell ⟨b, 1, none⟩ (.int .i64 (tot + x.val))) from by
          have h1 : Fr [b, m] w w3.drew := (Fr.of_below HB3.out _).transF (Fr.drew _ _)
          have h2 : Fr [b, m] w wy := by rw [hwy]; exact h1.transF (Fr.setB _ _ _ (by simp))
          have h3 : Fr [b, m] w wz := by rw [hwz]; exact h2.transF (Fr.setB _ _ _ (by simp))
          exact h3.transF (Fr.setCell _ _ _ (by simp)))
        have HCS := Lib.hid (show CsAt B (wz.setCell ⟨b, 1, none⟩ (.int .i64 (tot + x.val))) b m (l ++ [(p, x, c)]) (c + 1) (tot + x.val) from
          ⟨heap_setCell_at (j := 1) (zb.trans H3.out.box), by
            unfold PMapAt
            rw [Below.heap_setCell _ _ _ _ (Ne.symm hbm)]
            exact hm3, H3.out.wf.snoc (lkP_mem p l 0 HNO.out) x, H3.out.cwf.snoc HAD.out, H3.out.blo, H3.out.mlo⟩)
        have HE := Lib.hid (HE.out.trans HAD.out)
        unfold ptV cnV at f3
        unfold cnV at f4
        dsimp only [noCn] at f3
        clear hwy hwz hm2 hm3 hmd hbm hXm hXb y0 y1 yb z0 z1 zb
        go_upto_region 11 with fail
        go_region
        go_wp2_with fail
        go_ret
        unfold PutIs
        rw [HE.out, if_pos rfl]
        exact ⟨rfl, HFR.out, HCS.out⟩
      · have hne : ((addA tot x.val).2 != 0) = true := by rw [bne_iff_ne]; exact hadd
        have HAD := Lib.hid hadd
        generalize addA tot x.val = r2 at *
        clear hadd
        go_wp2_with fail
        go_ret
        exact PutIs.no HE.out HAD.out H.out HB3.out
  · have hf' : formedC p x = false := by simpa using hf
    have HE := Lib.hid (show putE l tot p x = 2 by unfold putE; rw [if_pos hf'])
    rw [hf']
    clear hf hf'
    go_wp2_with fail
    go_ret
    exact PutIs.no HE.out (by decide) H.out HB1.out
/-- What Take answers. -/
def takE (l : CL) (p : Pt) : PCn × Int := match lkP p 0 l with
  | some x => (x.2, 0)
  | none => (noCn, 8)
def takL (l : CL) (p : Pt) : CL := match lkP p 0 l with
  | some x => l.eraseIdx x.1
  | none => l
def takT (l : CL) (tot : Int) (p : Pt) : Int := match lkP p 0 l with
  | some x => tot - x.2.val
  | none => tot
def TakeIs (B b m : Nat) (l : CL) (c : Nat) (tot : Int) (p : Pt) (w : World) (e : Ending) (w' : World) : Prop :=
  e = .returned (.tuple #[cnV (takE l p).1, .int .i64 (takE l p).2]) ∧ Fr [b, m] w w' ∧ CsAt B w' b m (takL l p) c (takT l tot p)
theorem lkP_spec {α : Type} (p : Pt) : ∀ (l : List (Pt × α × Nat)) (i : Nat) (x : Nat × α), lkP p i l = some x → ∃ j s, x.1 = i + j ∧ l[j]? = some (p, x.2, s)
  | [], i, x, h => by cases h
  | y :: r, i, x, h => by
    unfold lkP at h
    by_cases hp : p = y.1
    · rw [if_pos hp] at h
      obtain rfl := Option.some.inj h
      exact ⟨0, y.2.2, rfl, by rw [hp]; rfl⟩
    · rw [if_neg hp] at h
      obtain ⟨j, s, h1, h2⟩ := lkP_spec p r (i + 1) x h
      exact ⟨j + 1, s, by omega, h2⟩
theorem PWf.erase {α : Type} {l : List (Pt × α × Nat)} {c : Nat} (h : PWf l c) (i : Nat) : PWf (l.eraseIdx i) c :=
  ⟨fun e he => h.born e (List.mem_of_mem_eraseIdx he), h.keys.sublist ((List.eraseIdx_sublist l i).map _)⟩
theorem sum_erase : ∀ (l : CL) (i : Nat) (e : Pt × PCn × Nat), l[i]? = some e → ((l.eraseIdx i).map (·.2.1.val)).sum = (l.map (·.2.1.val)).sum - e.2.1.val
  | [], i, e, h => by simp at h
  | x :: r, 0, e, h => by
    obtain rfl : x = e := by simpa using h
    simp
    omega
  | x :: r, i + 1, e, h => by
    have := sum_erase r i e (by simpa using h)
    show x.2.1.val + ((r.eraseIdx i).map (·.2.1.val)).sum = x.2.1.val + (r.map (·.2.1.val)).sum - _
    rw [this]
    omega
theorem sum_good : ∀ (l : CL), (∀ e ∈ l, goodA e.2.1.val = true) → 0 ≤ (l.map (·.2.1.val)).sum
  | [], _ => by simp
  | x :: r, h => by
    have h1 := (goodA_iff _).1 (h x (by simp))
    have h2 := sum_good r fun e he => h e (by simp [he])
    simp only [List.map_cons, List.sum_cons]
    omega
theorem CWf.erase {l : CL} {tot : Int} (h : CWf l tot) {i : Nat} {e : Pt × PCn × Nat} (hi : l[i]? = some e) : CWf (l.eraseIdx i) (tot - e.2.1.val) := by
  have hg : ∀ x ∈ l.eraseIdx i, goodA x.2.1.val = true := fun x hx => h.good x (List.mem_of_mem_eraseIdx hx)
  have hs := sum_erase l i e hi
  have h0 := sum_good _ hg
  have ht := (goodA_iff _).1 h.tot
  have he := (goodA_iff _).1 (h.good e (List.mem_of_getElem? hi))
  refine ⟨hg, by rw [hs, h.sum], (goodA_iff _).2 ?_⟩
  rw [hs, h.sum] at h0
  omega
theorem getP_some {α : Type} {z : α} {p : Pt} {l : List (Pt × α × Nat)} (h : (getP z p l).2 = true) : ∃ i, lkP p 0 l = some (i, (getP z p l).1) := by
  unfold getP at *
  split at h
  · rename_i x hx
    exact ⟨x.1, hx⟩
  · cases h
set_option maxRecDepth 100000 in
set_option maxHeartbeats 4000000 in
theorem ctake_any {B : Nat} {w : World} {b m : Nat} {l : CL} {c : Nat} {tot : Int} (h : CsAt B w b m l c tot) (p : Pt) : Calls Tryz.prog 21 #[.pointer (some ⟨b, 0, none⟩), ptV p] w (TakeIs B b m l c tot p w) := by
  have H := Lib.hid h
  obtain ⟨r, hr⟩ : ∃ r, r = getP noCn p l := ⟨_, rfl⟩
  have HR := Lib.hid hr
  clear hr
  unfold ptV
  go_enter Tryz.func21, Tryz.ntmps21
  go_upto_region 1 with fail
  obtain ⟨X, hX⟩ : ∃ q, q = w.heap.size := ⟨_, rfl⟩
  have hnews := new2 w X hX (.cells #[.string p.1, .int .u32 p.2] 46) (.cells #[.int .i64 0, .string ⟨#[]⟩, .int .i64 0] 50)
  rw [← hX]
  generalize ((w.alloc (.cells #[.string p.1, .int .u32 p.2] 46)).alloc (.cells #[.int .i64 0, .string ⟨#[]⟩, .int .i64 0] 50)) = w0 at *
  obtain ⟨hz0, hz1, hal⟩ := hnews
  have HB0 := Lib.hid hal
  have HZ0 := Lib.hid hz0
  have HZ1 := Lib.hid hz1
  have hXw : w.heap.size ≤ X ∧ w.heap.size ≤ X + 1 := by omega
  have H0 := Lib.hid (h.below hal)
  have f1 := lookupP mapCn zeroCn (show PMapAt cnV w0.drew m l c from H0.out.map) p
  have f2 := fun o => lookupP mapCn zeroCn (show PMapAt cnV (w0.alloc o).drew m l c from (H0.out.below ((Below.refl _ _).alloc (Nat.le_refl _) o)).map) p
  have c0 : w0.cell? ⟨b, 0, none⟩ = some (.map (some m)) := cell_at H0.out.box
  have c0' : ∀ o, (w0.alloc o).cell? ⟨b, 0, none⟩ = some (.map (some m)) := fun o => cell_at (H0.out.below ((Below.refl _ _).alloc (Nat.le_refl _) o)).box
  have p0 : w0.cell? ⟨X, 0, none⟩ = some (.string p.1) := cell_at hz0
  have p1 : w0.cell? ⟨X, 1, none⟩ = some (.int .u32 p.2) := cell_at hz0
  have p0' : ∀ o, (w0.alloc o).cell? ⟨X, 0, none⟩ = some (.string p.1) := fun o => cell_over p0 o
  have p1' : ∀ o, (w0.alloc o).cell? ⟨X, 1, none⟩ = some (.int .u32 p.2) := fun o => cell_over p1 o
  rw [← HR.out] at f1 f2
  unfold ptV at f1 f2
  unfold cnV at f1 f2
  clear hz0 hz1 hal h hX
  go_upto_region 3 with fail
  go_region
  have hz2 := heap_alloc_new w0 (.cells #[.int .i64 r.1.val, .string r.1.script, .int .i64 r.1.height] 50)
  have hb2 : Below w0.heap.size w0 (w0.alloc (.cells #[.int .i64 r.1.val, .string r.1.script, .int .i64 r.1.height] 50)).drew := ((Below.refl _ _).alloc (Nat.le_refl _) _).drew
  have hX3 : X + 1 < w0.heap.size := (Array.getElem?_eq_some_iff.1 HZ1.out).1
  have HB1 := Lib.hid (HB0.out.trans (hb2.mono HB0.out.size))
  have HZ2 : Hid ((w0.alloc (.cells #[.int .i64 r.1.val, .string r.1.script, .int .i64 r.1.height] 50)).drew.heap[w0.heap.size]? = _) := Lib.hid hz2
  have HZ1 := Lib.hid (stay HZ1.out hb2)
  have HZ0 := Lib.hid (stay HZ0.out hb2)
  have H1 := Lib.hid (H0.out.below hb2)
  have hbl := H0.out.lt
  generalize (w0.alloc (.cells #[.int .i64 r.1.val, .string r.1.script, .int .i64 r.1.height] 50)).drew = w1 at *
  obtain ⟨V, hV⟩ : ∃ V, V = w0.heap.size := ⟨_, rfl⟩
  rw [← hV] at HZ2 hX3 hbl ⊢
  have hbX := H.out.lt
  have y0 : w1.cell? ⟨X + 1, 0, none⟩ = some (.int .i64 0) := cell_at HZ1.out
  have y1 : w1.cell? ⟨X + 1, 1, none⟩ = some (.string ⟨#[]⟩) := cell_at HZ1.out
  have y2 : w1.cell? ⟨X + 1, 2, none⟩ = some (.int .i64 0) := cell_at HZ1.out
  have g0 : w1.frozen? ⟨X + 1, 0, none⟩ = false := free_at HZ1.out
  have g1 : w1.frozen? ⟨X + 1, 1, none⟩ = false := free_at HZ1.out
  have g2 : w1.frozen? ⟨X + 1, 2, none⟩ = false := free_at HZ1.out
  clear hz2 hb2 hV f1 f2 c0 c0' p0 p1 p0' p1'
  by_cases hfd : r.2 = true
  · rw [hfd]
    obtain ⟨i, hi⟩ := getP_some (z := noCn) (p := p) (l := l) (by rw [← HR.out]; exact hfd)
    rw [← HR.out] at hi
    have HI := Lib.hid hi
    clear hfd hi
    have c0 : w1.cell? ⟨b, 0, none⟩ = some (.map (some m)) := cell_at H1.out.box
    have p0 : w1.cell? ⟨X, 0, none⟩ = some (.string p.1) := cell_at HZ0.out
    have p1 : w1.cell? ⟨X, 1, none⟩ = some (.int .u32 p.2) := cell_at HZ0.out
    have f3 := deleteP (ty := 0) (pt := 46) mapCn (show PMapAt cnV w1.drew m l c from H1.out.map) p HI.out
    unfold ptV at f3
    go_upto_region 6 with fail
    go_region
    have hbm := H1.out.ne
    have hm2 := (show PMapAt cnV w1.drew m l c from H1.out.map).set (l.eraseIdx i) c
    have hf2 : Fr [b, m] w1 (setB w1.drew m (.map (entsP cnV (l.eraseIdx i)).toArray c)) := (Fr.drew _ w1).transF (Fr.setB _ _ _ (by simp))
    have hyb : (setB w1.drew m (.map (entsP cnV (l.eraseIdx i)).toArray c)).heap[b]? = w1.heap[b]? := by rw [setB_other hbm]; rfl
    have hy1 : (setB w1.drew m (.map (entsP cnV (l.eraseIdx i)).toArray c)).heap[X + 1]? = w1.heap[X + 1]? := by rw [setB_other (by omega)]; rfl
    have hyv : (setB w1.drew m (.map (entsP cnV (l.eraseIdx i)).toArray c)).heap[V]? = w1.heap[V]? := by rw [setB_other (by omega)]; rfl
    generalize setB w1.drew m (.map (entsP cnV (l.eraseIdx i)).toArray c) = w2 at *
    obtain ⟨j, s, hj, hls⟩ := lkP_spec p l 0 _ HI.out
    obtain rfl : i = j := by simpa using hj
    have hcw := H1.out.cwf.erase hls
    have HW := Lib.hid (And.intro (H1.out.wf.erase i) hcw)
    have HF2 := Lib.hid hf2
    have HM2 := Lib.hid hm2
    have HBM := Lib.hid hbm
    have ZB := Lib.hid (hyb.trans H1.out.box)
    have Z1 := Lib.hid (hy1.trans HZ1.out)
    have ZV := Lib.hid (hyv.trans HZ2.out)
    have hvr : 0 ≤ tot - r.1.val ∧ tot - r.1.val ≤ 2100000000000000 := (goodA_iff _).1 hcw.tot
    obtain ⟨tv, htv⟩ : ∃ q, q = tot - r.1.val := ⟨_, rfl⟩
    have hwr : IntKind.i64.wrap (tot - r.1.val) = tv := by rw [IntKind.wrap_i64, htv]; omega
    have hwr2 : wrap64 (tot - r.1.val) = tv := by unfold wrap64; rw [htv]; omega
    have HTV := Lib.hid htv
    clear htv hls hcw hf2 hm2 hbm hyb hy1 hyv hj f3 c0 p0 p1 y0 y1 y2 g0 g1 g2 hvr
    have c1 : w2.cell? ⟨b, 1, none⟩ = some (.int .i64 tot) := cell_at ZB.out
    have gb : w2.frozen? ⟨b, 1, none⟩ = false := free_at ZB.out
    have v0 : w2.cell? ⟨V, 0, none⟩ = some (.int .i64 r.1.val) := cell_at ZV.out
    go_upto_region 7 with fail
    go_region
    have HF3 := Lib.hid (show Fr [b, m] w1 ((w2.setCell ⟨b, 1, none⟩ (.int .i64 tv)).drew) from (HF2.out.transF (Fr.setCell _ _ _ (by simp))).transF (Fr.drew _ _))
    have ZB := Lib.hid (show ((w2.setCell ⟨b, 1, none⟩ (.int .i64 tv)).drew).heap[b]? = some (.cells #[.map (some m), .int .i64 tv] 105 (0, 0)) from heap_setCell_at (j := 1) (u := .int .i64 tv) ZB.out)
    have HM3 := Lib.hid (show ((w2.setCell ⟨b, 1, none⟩ (.int .i64 tv)).drew).heap[m]? = w2.heap[m]? from Below.heap_setCell _ _ _ _ (Ne.symm HBM.out))
    have Z1 := Lib.hid (show ((w2.setCell ⟨b, 1, none⟩ (.int .i64 tv)).drew).heap[X + 1]? = _ from (Below.heap_setCell w2 ⟨b, 1, none⟩ (.int .i64 tv) (X + 1) (by show X + 1 ≠ b; omega)).trans Z1.out)
    have ZV := Lib.hid (show ((w2.setCell ⟨b, 1, none⟩ (.int .i64 tv)).drew).heap[V]? = _ from (Below.heap_setCell w2 ⟨b, 1, none⟩ (.int .i64 tv) V (by show V ≠ b; omega)).trans ZV.out)
    generalize (w2.setCell ⟨b, 1, none⟩ (.int .i64 tv)).drew = w3 at *
    have HCS := Lib.hid (show CsAt B w3 b m (l.eraseIdx i) c tv from ⟨ZB.out, by unfold PMapAt; rw [HM3.out]; exact HM2.out, HW.out.1, by rw [HTV.out]; exact HW.out.2, H1.out.blo, H1.out.mlo⟩)
    have HF4 := Lib.hid (show Fr [b, m] w w3 from (Fr.of_below HB1.out _).transF HF3.out)
    have y0 : w3.cell? ⟨X + 1, 0, none⟩ = some (.int .i64 0) := cell_at Z1.out
    have y1 : w3.cell? ⟨X + 1, 1, none⟩ = some (.string ⟨#[]⟩) := cell_at Z1.out
    have y2 : w3.cell? ⟨X + 1, 2, none⟩ = some (.int .i64 0) := cell_at Z1.out
    have g0 : w3.frozen? ⟨X + 1, 0, none⟩ = false := free_at Z1.out
    have g1 : w3.frozen? ⟨X + 1, 1, none⟩ = false := free_at Z1.out
    have g2 : w3.frozen? ⟨X + 1, 2, none⟩ = false := free_at Z1.out
    have v0 : w3.cell? ⟨V, 0, none⟩ = some (.int .i64 r.1.val) := cell_at ZV.out
    have v1 : w3.cell? ⟨V, 1, none⟩ = some (.string r.1.script) := cell_at ZV.out
    have v2 : w3.cell? ⟨V, 2, none⟩ = some (.int .i64 r.1.height) := cell_at ZV.out
    clear hwr hwr2 c1 gb
    go_wp2_with fail
    have q0 := heap_setCell_at (j := 0) (u := .int .i64 r.1.val) Z1.out
    have q1 := heap_setCell_at (j := 1) (u := .string r.1.script) q0
    have q2 := heap_setCell_at (j := 2) (u := .int .i64 r.1.height) q1
    have hx1 : w.heap.size ≤ X + 1 := hXw.2
    have hbm3 : (((w3.setCell ⟨X + 1, 0, none⟩ (.int .i64 r.1.val)).setCell ⟨X + 1, 1, none⟩ (.string r.1.script)).setCell ⟨X + 1, 2, none⟩ (.int .i64 r.1.height)).heap[b]? = w3.heap[b]? := (Below.heap_setCell _ _ _ _ (by show b ≠ X + 1; omega)).trans ((Below.heap_setCell _ _ _ _ (by show b ≠ X + 1; omega)).trans (Below.heap_setCell _ _ _ _ (by show b ≠ X + 1; omega)))
    have hmm3 : (((w3.setCell ⟨X + 1, 0, none⟩ (.int .i64 r.1.val)).setCell ⟨X + 1, 1, none⟩ (.string r.1.script)).setCell ⟨X + 1, 2, none⟩ (.int .i64 r.1.height)).heap[m]? = w3.heap[m]? := (Below.heap_setCell _ _ _ _ (by show m ≠ X + 1; omega)).trans ((Below.heap_setCell _ _ _ _ (by show m ≠ X + 1; omega)).trans (Below.heap_setCell _ _ _ _ (by show m ≠ X + 1; omega)))
    have hfr : Fr [b, m] w (((w3.setCell ⟨X + 1, 0, none⟩ (.int .i64 r.1.val)).setCell ⟨X + 1, 1, none⟩ (.string r.1.script)).setCell ⟨X + 1, 2, none⟩ (.int .i64 r.1.height)) := by
      have h1 : Fr [X + 1] w3 (((w3.setCell ⟨X + 1, 0, none⟩ (.int .i64 r.1.val)).setCell ⟨X + 1, 1, none⟩ (.string r.1.script)).setCell ⟨X + 1, 2, none⟩ (.int .i64 r.1.height)) := ((Fr.setCell _ _ _ (by simp)).transF (Fr.setCell _ _ _ (by simp))).transF (Fr.setCell _ _ _ (by simp))
      exact HF4.out.trans (fun k hk => .inr (by rw [List.mem_singleton.1 hk]; exact hx1)) h1
    generalize ((w3.setCell ⟨X + 1, 0, none⟩ (.int .i64 r.1.val)).setCell ⟨X + 1, 1, none⟩ (.string r.1.script)).setCell ⟨X + 1, 2, none⟩ (.int .i64 r.1.height) = w4 at *
    have x0 : w4.cell? ⟨X + 1, 0, none⟩ = some (.int .i64 r.1.val) := cell_at q2
    have x1 : w4.cell? ⟨X + 1, 1, none⟩ = some (.string r.1.script) := cell_at q2
    have x2 : w4.cell? ⟨X + 1, 2, none⟩ = some (.int .i64 r.1.height) := cell_at q2
    refine bodyPost_ret (v := .tuple #[cnV r.1, .int .i64 0]) (by simp [results, Tryz.results21, go_sem, x0, x1, x2, cnV]) rfl ?_
    unfold TakeIs takE takL takT
    rw [HI.out]
    dsimp only
    rw [← HTV.out]
    exact ⟨rfl, hfr, HCS.out.kept hbm3 hmm3⟩
  · have hfn : r.2 = false := by simpa using hfd
    have hnone : lkP p 0 l = none := lkP_none (z := noCn) (by rw [← HR.out]; exact hfn)
    have HNO := Lib.hid hnone
    rw [hfn]
    clear hfd hfn hnone
    go_wp2_with fail
    have q0 := heap_setCell_at (j := 0) (u := .int .i64 0) HZ1.out
    have q1 := heap_setCell_at (j := 1) (u := .string ⟨#[]⟩) q0
    have q2 := heap_setCell_at (j := 2) (u := .int .i64 0) q1
    have hb3 := ((HB1.out.setCell (p := ⟨X + 1, 0, none⟩) hXw.2 (.int .i64 0)).setCell (p := ⟨X + 1, 1, none⟩) hXw.2 (.string ⟨#[]⟩)).setCell (p := ⟨X + 1, 2, none⟩) hXw.2 (.int .i64 0)
    generalize ((w1.setCell ⟨X + 1, 0, none⟩ (.int .i64 0)).setCell ⟨X + 1, 1, none⟩ (.string ⟨#[]⟩)).setCell ⟨X + 1, 2, none⟩ (.int .i64 0) = w2 at *
    have x0 : w2.cell? ⟨X + 1, 0, none⟩ = some (.int .i64 0) := cell_at q2
    have x1 : w2.cell? ⟨X + 1, 1, none⟩ = some (.string ⟨#[]⟩) := cell_at q2
    have x2 : w2.cell? ⟨X + 1, 2, none⟩ = some (.int .i64 0) := cell_at q2
    refine bodyPost_ret (v := .tuple #[cnV noCn, .int .i64 8]) (by simp [results, Tryz.results21, go_sem, x0, x1, x2, cnV, noCn]) rfl ?_
    unfold TakeIs takE takL takT
    rw [HNO.out]
    exact ⟨rfl, Fr.of_below hb3 _, H.out.below hb3⟩
end Go.Proofs.YtelindgnkpfkiaaGreatDoor
end
