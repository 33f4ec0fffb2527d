/-
  A map from points to counts: look-up, entry, store. Conditions: none beyond each theorem's own.
-/
import Derived.Test.YtelindgnkpfkiaaGreatDoorQ3CheckFeesCard
import Derived.BigRegion
namespace Go.Proofs.YtelindgnkpfkiaaGreatDoor
open Go.RowKit Go.BigFrame
set_option linter.unusedVariables false
set_option linter.unusedSimpArgs false

abbrev Pt := ByteArray × Nat
def ents (s : Nat) : List (Pt × Int) → List MapEntry
  | [] => []
  | x :: r => ⟨ptV x.1, .int .i64 x.2, s⟩ :: ents (s + 1) r
def lk (p : Pt) (i : Nat) : List (Pt × Int) → Option (Nat × Int)
  | [] => none
  | x :: r => if p = x.1 then some (i, x.2) else lk p (i + 1) r
theorem ask_pt (p : Pt) (w : World) : ∀ (l : List (Pt × Int)) (s i : Nat), (Instr.findAsking 46 (ptV p) (ents s l) i).run Tryz.prog w = .ok ((lk p i l).map fun x => (x.1, .int .i64 x.2)) w
  | [], s, i => rfl
  | x :: r, s, i => by
    show (Instr.findAsking 46 (ptV p) (⟨ptV x.1, .int .i64 x.2, s⟩ :: ents (s + 1) r) i).run Tryz.prog w = _
    unfold Instr.findAsking
    rw [Sem.run_bind, show Op.equal 46 (ptV p) (ptV x.1) = Op.equalIn 10000 46 (ptV p) (ptV x.1) from rfl, eqIn_pt]
    unfold lk
    by_cases h : p = x.1
    · rw [if_pos h, decide_eq_true h]; rfl
    · rw [if_neg h, decide_eq_false h]
      exact ask_pt p w r (s + 1) (i + 1)
theorem find_pt (p : Pt) (w : World) (l : List (Pt × Int)) (s : Nat) : (Instr.findKey 46 (ptV p) (ents s l)).run Tryz.prog w = .ok ((lk p 0 l).map fun x => (x.1, .int .i64 x.2)) w := by
  cases l with
  | nil => kernel_rfl
  | cons x r =>
    have h : (Instr.findKey 46 (ptV p) (ents s (x :: r))).run Tryz.prog w = (Instr.findAsking 46 (ptV p) (ents s (x :: r)) 0).run Tryz.prog w := by kernel_rfl
    exact h.trans (ask_pt p w (x :: r) s 0)
theorem check_pt (e : Bool) (p : Pt) (w : World) : (Instr.checkKey e 10000 46 (ptV p)).run Tryz.prog w = .ok () w := by
  kernel_rfl
theorem getObj_at {P : Program} {w : World} {r : Nat} {es : Array MapEntry} {c : Nat} (h : w.heap[r]? = some (.map es c)) : (getObj r).run P w = .ok (.map es c) w := by simp [getObj, Sem.run, h]
def setB (w : World) (r : Nat) (o : Obj) : World := { w with heap := w.heap.setIfInBounds r o }
theorem setObj_map {P : Program} {w : World} {r : Nat} {es : Array MapEntry} {c : Nat} (h : w.heap[r]? = some (.map es c)) (o' : Obj) : (setObj r o').run P w = .ok () (setB w r o') := by simp [setObj, Sem.run, h, setB]
/-- The map of these points and counts lies in the block. -/
def MapAt (w : World) (m : Nat) (l : List (Pt × Int)) : Prop := w.heap[m]? = some (.map (ents 0 l).toArray l.length)
theorem MapAt.set {w : World} {m : Nat} {l : List (Pt × Int)} (h : MapAt w m l) (l' : List (Pt × Int)) : MapAt (setB w m (.map (ents 0 l').toArray l'.length)) m l' := by
  have hlt := (Array.getElem?_eq_some_iff.1 h).1
  unfold MapAt setB
  simp [hlt]
theorem below_setB {B : Nat} {w wr : World} (h : Below B w wr) {m : Nat} (hm : B ≤ m) (o : Obj) : Below B w (setB wr m o) :=
  ⟨h.os, h.tape, h.output, by have := h.size; simpa [setB] using this, fun k hk => by
    rw [← h.block k hk]
    unfold setB
    simp only
    rw [Array.getElem?_setIfInBounds_ne (by omega)]⟩
def lkV (p : Pt) (l : List (Pt × Int)) : Int := match lk p 0 l with
  | some x => x.2
  | none => 0
theorem lookup_pt {w : World} {m : Nat} {l : List (Pt × Int)} (h : MapAt w m l) (p : Pt) : (Instr.lookup 190 (.map (some m)) (ptV p) false).run Tryz.prog w = .ok (.int .i64 (lkV p l)) w := by
  unfold Instr.lookup
  simp only [Sem.run_bind, run_underlying Tryz.underlying190, Result.andThen_ok, getObj_at h, Sem.run_pure, check_pt, find_pt]
  unfold lkV
  cases hl : lk p 0 l with
  | none =>
    have hz : (zeroValue 3).run Tryz.prog w = .ok (.int .i64 0) w := by kernel_rfl
    simp [Sem.run_bind, hz, Result.andThen]
  | some x => simp [Sem.run_bind, Result.andThen]
theorem same_pt (p : Pt) : Instr.sameBits 10000 (ptV p) (ptV p) = true := by
  obtain ⟨a, b⟩ := p
  have : (a == a) = true := by rw [beq_toListBytes]; simp
  simp [ptV, Instr.sameBits, this]
theorem modify_same {α : Type} {l : List α} {j : Nat} {x : α} {f : α → α} (h : l[j]? = some x) (hf : f x = x) : l.modify j f = l := by
  apply List.ext_getElem?
  intro i
  rw [List.getElem?_modify]
  by_cases hi : j = i
  · subst hi
    rw [h]
    simp [hf]
  · simp [hi]
/-- The entry of a point, made if there is none. -/
def withPt (p : Pt) (l : List (Pt × Int)) : List (Pt × Int) := match lk p 0 l with
  | some _ => l
  | none => l ++ [(p, 0)]
def atPt (p : Pt) (l : List (Pt × Int)) : Nat := match lk p 0 l with
  | some x => x.1
  | none => l.length
theorem ents_snoc (p : Pt) (v : Int) : ∀ (l : List (Pt × Int)) (s : Nat), ents s (l ++ [(p, v)]) = ents s l ++ [⟨ptV p, .int .i64 v, s + l.length⟩]
  | [], s => rfl
  | x :: r, s => by
    show _ :: ents (s + 1) (r ++ [(p, v)]) = _ :: (ents (s + 1) r ++ _)
    rw [ents_snoc p v r (s + 1), List.length_cons]
    congr 4
    omega
theorem lk_spec (p : Pt) : ∀ (l : List (Pt × Int)) (i : Nat) (x : Nat × Int), lk p i l = some x → ∃ j, x.1 = i + j ∧ l[j]? = some (p, x.2)
  | [], i, x, h => by cases h
  | y :: r, i, x, h => by
    unfold lk at h
    by_cases hp : p = y.1
    · rw [if_pos hp] at h
      obtain rfl := Option.some.inj h
      exact ⟨0, rfl, by rw [hp]; rfl⟩
    · rw [if_neg hp] at h
      obtain ⟨j, h1, h2⟩ := lk_spec p r (i + 1) x h
      exact ⟨j + 1, by omega, h2⟩
theorem ents_at : ∀ (l : List (Pt × Int)) (s j : Nat), (ents s l)[j]? = l[j]?.map fun x => ⟨ptV x.1, .int .i64 x.2, s + j⟩
  | [], s, j => by simp [ents]
  | x :: r, s, 0 => by simp [ents]
  | x :: r, s, j + 1 => by
    show (ents (s + 1) r)[j]? = r[j]?.map _
    rw [ents_at r (s + 1) j]
    congr 1
    funext y
    congr 1
    omega
set_option maxRecDepth 100000 in
theorem entry_pt {w : World} {m : Nat} {l : List (Pt × Int)} (h : MapAt w m l) (p : Pt) : (Instr.mapEntry 190 (.map (some m)) (ptV p)).run Tryz.prog w = .ok (.tuple #[.int .i64 (lkV p l), .int .i64 (atPt p l)]) (setB w m (.map (ents 0 (withPt p l)).toArray (withPt p l).length)) := by
  unfold Instr.mapEntry
  simp only [Sem.run_bind, run_underlying Tryz.underlying190, Result.andThen_ok, getObj_at h, Sem.run_pure, check_pt, find_pt]
  unfold lkV atPt withPt
  cases hl : lk p 0 l with
  | none =>
    have hz : (zeroValue 3).run Tryz.prog w = .ok (.int .i64 0) w := by kernel_rfl
    simp only [Option.map_none, Sem.run_bind, hz, Result.andThen_ok, setObj_map h, Sem.run_pure, goInt]
    congr 3
    · rw [ents_snoc, Nat.zero_add]
      simp
    · simp
  | some x =>
    obtain ⟨j, h1, h2⟩ := lk_spec p l 0 x hl
    rw [Nat.zero_add] at h1
    have he := ents_at l 0 j
    rw [h2] at he
    have hj : j < (ents 0 l).length := (List.getElem?_eq_some_iff.1 he).1
    have hk : (ents 0 l).toArray[x.1]? = some ⟨ptV p, .int .i64 x.2, 0 + j⟩ := by rw [h1]; simpa using he
    have hkt : (Instr.keyThatStays (ptV p) (ptV p)).run Tryz.prog w = .ok (ptV p) w := by
      unfold Instr.keyThatStays
      rw [if_pos (same_pt p)]
      rfl
    simp only [Option.map_some, Sem.run_bind, hk, Option.getD_some, hkt, Result.andThen_ok, setObj_map h, Sem.run_pure, goInt]
    congr 3
    · rw [h1]; simp
    · rw [h1, List.modify_toArray, modify_same (f := fun e => { e with key := ptV p }) he rfl]

/-- The count at a place, set. -/
def putAt (l : List (Pt × Int)) (i : Nat) (v : Int) : List (Pt × Int) := l.modify i fun x => (x.1, v)
theorem ents_born : ∀ (l : List (Pt × Int)) (s i : Nat), i < l.length → (ents s l).findIdx? (fun e => (e.born : Int) == ((s + i : Nat) : Int)) = some i
  | [], s, i, h => by simp at h
  | x :: r, s, 0, h => by simp [ents, List.findIdx?_cons]
  | x :: r, s, i + 1, h => by
    have h1 := ents_born r (s + 1) i (by simpa using h)
    show (_ :: ents (s + 1) r).findIdx? _ = _
    rw [List.findIdx?_cons]
    have h2 : ((s : Int) == ((s + (i + 1) : Nat) : Int)) = false := by
      rw [beq_eq_false_iff_ne]
      omega
    simp only [h2]
    rw [show s + (i + 1) = s + 1 + i by omega, h1]
    rfl
theorem ents_put (v : Int) : ∀ (l : List (Pt × Int)) (s i : Nat), (ents s l).modify i (fun e => { e with val := .int .i64 v }) = ents s (putAt l i v)
  | [], s, i => by simp [ents, putAt]
  | x :: r, s, 0 => rfl
  | x :: r, s, i + 1 => by
    show (_ :: (ents (s + 1) r).modify i _) = _ :: ents (s + 1) (r.modify i _)
    rw [ents_put v r (s + 1) i]
    rfl
theorem put_len (l : List (Pt × Int)) (i : Nat) (v : Int) : (putAt l i v).length = l.length := by simp [putAt]
set_option maxRecDepth 100000 in
theorem store_pt {w : World} {m : Nat} {l : List (Pt × Int)} (h : MapAt w m l) (i : Nat) (hi : i < l.length) (v : Int) :
    (Instr.entryStore 190 (.map (some m)) (.int .i64 i) (.int .i64 v)).run Tryz.prog w = .ok () (setB w m (.map (ents 0 (putAt l i v)).toArray (putAt l i v).length)) := by
  have hb := ents_born l 0 i hi
  rw [Nat.zero_add] at hb
  have hb2 : (ents 0 l).toArray.findIdx? (fun e => (e.born : Int) == (i : Int)) = some i := by simpa using hb
  have ha : (asInt (.int .i64 (i : Int))).run Tryz.prog w = .ok (i : Int) w := by kernel_rfl
  unfold Instr.entryStore
  simp only [Sem.run_bind, Result.andThen_ok, getObj_at h, ha, hb2, setObj_map h]
  congr 3
  · rw [← ents_put]; simp
  · rw [put_len]

/-! the points met so far, each once -/
def once (ps : List Pt) : List (Pt × Int) := ps.map fun p => (p, 1)
theorem lk_once (p : Pt) : ∀ (ps : List Pt) (i : Nat), (lk p i (once ps)).isSome = true ↔ p ∈ ps
  | [], i => by simp [once, lk]
  | q :: r, i => by
    show (lk p i ((q, 1) :: once r)).isSome = true ↔ _
    unfold lk
    by_cases h : p = q
    · subst h; simp
    · rw [if_neg h, lk_once p r (i + 1)]
      simp [h]
theorem lk_yes {p : Pt} {ps : List Pt} (h : p ∈ ps) (i : Nat) : ∃ x, lk p i (once ps) = some x := by
  have := (lk_once p ps i).2 h
  exact Option.isSome_iff_exists.1 this
theorem lk_no {p : Pt} {ps : List Pt} (h : p ∉ ps) (i : Nat) : lk p i (once ps) = none := by
  cases hl : lk p i (once ps)
  · rfl
  · exact absurd ((lk_once p ps i).1 (by rw [hl]; rfl)) h
theorem put_snoc (p : Pt) (u v : Int) : ∀ (l : List (Pt × Int)), putAt (l ++ [(p, u)]) l.length v = l ++ [(p, v)]
  | [] => rfl
  | x :: r => by
    show x :: putAt (r ++ [(p, u)]) r.length v = x :: (r ++ [(p, v)])
    rw [put_snoc p u v r]
theorem lk_one (p : Pt) (ps : List Pt) (i : Nat) (x : Nat × Int) (h : lk p i (once ps) = some x) : x.2 = 1 := by
  obtain ⟨j, -, h2⟩ := lk_spec p _ _ _ h
  unfold once at h2
  rw [List.getElem?_map] at h2
  cases hp : ps[j]? with
  | none => rw [hp] at h2; cases h2
  | some q =>
    rw [hp] at h2
    have := Option.some.inj h2
    exact (congrArg Prod.snd this).symm
theorem once_len (ps : List Pt) : (once ps).length = ps.length := by simp [once]
/-- A point that wasn't met: its count is one behind the round. -/
theorem new_pt {p : Pt} {ps : List Pt} (h : p ∉ ps) : lkV p (once ps) = 0 ∧ withPt p (once ps) = once ps ++ [(p, 0)] ∧ atPt p (once ps) = ps.length ∧ putAt (once ps ++ [(p, 0)]) ps.length 1 = once (ps ++ [p]) := by
  have hn := lk_no h 0
  refine ⟨by unfold lkV; rw [hn], by unfold withPt; rw [hn], by unfold atPt; rw [hn]; exact once_len ps, ?_⟩
  have := put_snoc p 0 1 (once ps)
  rw [once_len] at this
  rw [this]
  simp [once]
theorem lkV_put {p : Pt} {v : Int} : ∀ (l : List (Pt × Int)) (i : Nat) (x : Nat × Int), lk p i l = some x → ∃ y, lk p i (putAt l (x.1 - i) v) = some y ∧ y.2 = v
  | [], i, x, h => by cases h
  | y :: r, i, x, h => by
    unfold lk at h
    by_cases hp : p = y.1
    · rw [if_pos hp] at h
      obtain rfl := Option.some.inj h
      refine ⟨(i, v), ?_, rfl⟩
      rw [Nat.sub_self]
      show lk p i ((y.1, v) :: r) = _
      unfold lk
      rw [if_pos hp]
    · rw [if_neg hp] at h
      obtain ⟨z, h1, h2⟩ := lkV_put r (i + 1) x h
      obtain ⟨j, hj, -⟩ := lk_spec p r (i + 1) x h
      refine ⟨z, ?_, h2⟩
      rw [show x.1 - i = (x.1 - (i + 1)) + 1 by omega]
      show lk p i (y :: putAt r (x.1 - (i + 1)) v) = _
      unfold lk
      rw [if_neg hp]
      exact h1
/-- A point that was met: its count is two behind the round. -/
theorem old_pt {p : Pt} {ps : List Pt} (h : p ∈ ps) : lkV p (once ps) = 1 ∧ withPt p (once ps) = once ps ∧ atPt p (once ps) < (once ps).length ∧ lkV p (putAt (once ps) (atPt p (once ps)) 2) = 2 := by
  obtain ⟨x, hl⟩ := lk_yes h 0
  obtain ⟨j, h1, h2⟩ := lk_spec p _ _ _ hl
  obtain ⟨y, h3, h4⟩ := lkV_put (v := 2) (once ps) 0 x hl
  rw [Nat.sub_zero] at h3
  have e : atPt p (once ps) = x.1 := by unfold atPt; rw [hl]
  refine ⟨by unfold lkV; rw [hl]; exact lk_one p ps 0 x hl, by unfold withPt; rw [hl], ?_, ?_⟩
  · rw [e, h1, Nat.zero_add]
    exact (List.getElem?_eq_some_iff.1 h2).1
  · rw [e]
    unfold lkV
    rw [h3]
    exact h4
theorem lk_snoc (p : Pt) (v : Int) : ∀ (l : List (Pt × Int)) (i : Nat), lk p i l = none → lk p i (l ++ [(p, v)]) = some (i + l.length, v)
  | [], i, _ => by
    show lk p i [(p, v)] = _
    unfold lk
    rw [if_pos rfl]
    rfl
  | x :: r, i, h => by
    unfold lk at h
    by_cases hp : p = x.1
    · rw [if_pos hp] at h; cases h
    · rw [if_neg hp] at h
      show lk p i (x :: (r ++ [(p, v)])) = _
      unfold lk
      rw [if_neg hp, lk_snoc p v r (i + 1) h, List.length_cons]
      congr 2
      omega
theorem lkV_zero {p : Pt} {ps : List Pt} (h : p ∉ ps) : lkV p (once ps ++ [(p, 0)]) = 0 := by
  unfold lkV
  rw [lk_snoc p 0 _ 0 (lk_no h 0)]
theorem lkV_new {p : Pt} {ps : List Pt} : lkV p (once (ps ++ [p])) = 1 := by
  obtain ⟨x, hl⟩ := lk_yes (p := p) (ps := ps ++ [p]) (by simp) 0
  unfold lkV
  rw [hl]
  exact lk_one p _ 0 x hl

def ptsOf (t : PTx) : List Pt := t.ins.map fun x => (x.id, x.idx)
noncomputable def dup (ps : List Pt) : Bool := @decide (¬ ps.Nodup) (Classical.propDecidable _)
theorem dup_yes {ps : List Pt} (h : ¬ ps.Nodup) : dup ps = true := @decide_eq_true _ (Classical.propDecidable _) h
theorem dup_no {ps : List Pt} (h : ps.Nodup) : dup ps = false := @decide_eq_false _ (Classical.propDecidable _) (fun hn => hn h)
theorem nodup_step {ps : List Pt} {k : Nat} {p : Pt} (h : (ps.take k).Nodup) (hp : ps[k]? = some p) (hn : p ∉ ps.take k) : (ps.take (k + 1)).Nodup := by
  rw [List.take_add_one, hp]
  simp only [Option.toList_some]
  rw [List.nodup_append]
  refine ⟨h, by simp, ?_⟩
  intro a ha b hb
  rw [List.mem_singleton] at hb
  subst hb
  exact fun e => hn (e ▸ ha)
theorem nodup_not {ps : List Pt} {k : Nat} {p : Pt} (hp : ps[k]? = some p) (hn : p ∈ ps.take k) : ¬ ps.Nodup := by
  intro h
  have h1 : (ps.take (k + 1)).Nodup := h.sublist (List.take_sublist _ _)
  rw [List.take_add_one, hp] at h1
  simp only [Option.toList_some] at h1
  rw [List.nodup_append] at h1
  exact h1.2.2 p hn p (by simp) rfl
theorem cell_setB {w : World} {m : Nat} {o : Obj} {p : Addr} (hp : p.block ≠ m) : (setB w m o).cell? p = w.cell? p := by
  simp only [World.cell?, setB]
  rw [Array.getElem?_setIfInBounds_ne (Ne.symm hp)]

set_option maxRecDepth 100000 in
set_option maxHeartbeats 2000000 in
theorem twice_any (v : Value) (t : PTx) (w : World) (hv : TxAt w v t) : Calls Tryz.prog 86 #[v] w (BIs (dup (ptsOf t)) w) := by
  obtain ⟨va, vo, rfl, hia, hob, -, -⟩ := hv
  obtain ⟨a, c, rfl, hl1, hl2⟩ := hia.shape
  rw [maxLen_eq] at hl2
  have htb := TB.start hia hob
  have HTB := Lib.hid htb
  clear htb hia hob
  obtain ⟨n, hn⟩ : ∃ n, n = t.ins.length := ⟨_, rfl⟩
  obtain ⟨ps, hps⟩ : ∃ ps, ps = ptsOf t := ⟨_, rfl⟩
  rw [← hps]
  rw [← hn] at hl1 HTB ⊢
  have HPS := Lib.hid hps
  have HN := Lib.hid hn
  clear hps hn
  have hmm := @run_makeMap Tryz.prog
  go_enter Tryz.func86, Tryz.ntmps86
  go_upto_region 1 with fail
  have hsz0 : (w.alloc (.cells #[.int .u32 t.ver, .slice a n c, vo, .int .u32 t.lock] 35)).heap.size = w.heap.size + 1 := by simp
  generalize w.alloc (.cells #[.int .u32 t.ver, .slice a n c, vo, .int .u32 t.lock] 35) = w0 at *
  go_upto_region 2 with fail
  have hal : Below w0.heap.size w0 (w0.alloc (.map #[] 0)) := (Below.refl _ _).alloc (Nat.le_refl _) _
  have hma : MapAt (w0.alloc (.map #[] 0)) (w.heap.size + 1) (once (ps.take 0)) := by
    unfold MapAt
    rw [← hsz0]
    exact heap_alloc_new w0 (.map #[] 0)
  have htb1 := HTB.out.next hal
  have HTB := Lib.hid htb1
  have HMA := Lib.hid hma
  generalize w0.alloc (.map #[] 0) = w1 at *
  have c1 : w1.cell? ⟨w.heap.size, 1, none⟩ = some (.slice a n c) := cell_at htb1.box
  clear hal hma htb1 hmm hsz0
  obtain ⟨m, hm⟩ : ∃ m, m = w.heap.size + 1 := ⟨_, rfl⟩
  rw [← hm] at HMA ⊢
  have HM := Lib.hid hm
  clear hm
  go_wp2_with fail
  go_loopg [10] n (fun g i wr => ∃ (k : Nat), g = n - k ∧ k ≤ n ∧ i = .int .i64 k ∧ TB w (.slice a n c) vo t wr ∧ MapAt wr m (once (ps.take k)) ∧ (ps.take k).Nodup)
  case atStart => exact ⟨0, rfl, by omega, rfl, HTB.out, HMA.out, List.nodup_nil⟩
  case round =>
    clear HTB HMA c1
    rename World => wo
    obtain ⟨k, hgk, hk, rfl, htb, hma, hnd⟩ := hrel
    have HGK := Lib.hid hgk
    have HTB := Lib.hid htb
    have HMA := Lib.hid hma
    have HND := Lib.hid hnd
    clear hgk htb hma hnd
    by_cases hlt : k < n
    · obtain ⟨b, o, x, wv, rfl, hx, hseq, hidx, hid, hwv, d0, d1, d2, d3⟩ := HTB.out.ins.inp hlt
      obtain ⟨wa, wc, rfl, -, -⟩ := hwv.shape
      have hpx : ps[k]? = some (x.id, x.idx) := by rw [HPS.out]; unfold ptsOf; rw [List.getElem?_map, hx]; rfl
      have HPX := Lib.hid hpx
      clear hx hwv hpx
      generalize x.wit.length = wl at *
      go_upto_region 5 with fail
      have hx0 := heap_alloc_new wo (.cells #[.string x.id, .int .u32 x.idx, .int .u32 x.seq, .slice wa wl wc] 56)
      have hbx : Below wo.heap.size wo (wo.alloc (.cells #[.string x.id, .int .u32 x.idx, .int .u32 x.seq, .slice wa wl wc] 56)) := (Below.refl _ _).alloc (Nat.le_refl _) _
      generalize wo.alloc (.cells #[.string x.id, .int .u32 x.idx, .int .u32 x.seq, .slice wa wl wc] 56) = wx at *
      have hmlt : m < wo.heap.size := (Array.getElem?_eq_some_iff.1 HMA.out).1
      have hmx : MapAt wx m (once (ps.take k)) := by unfold MapAt; rw [hbx.block m hmlt]; exact HMA.out
      have htx := HTB.out.next hbx
      have e0 : wx.cell? ⟨wo.heap.size, 0, none⟩ = some (.string x.id) := cell_at hx0
      have e1 : wx.cell? ⟨wo.heap.size, 1, none⟩ = some (.int .u32 x.idx) := cell_at hx0
      have hmd : MapAt wx.drew m (once (ps.take k)) := hmx
      have f1 := lookup_pt hmd (x.id, x.idx)
      have f2 := entry_pt hmd (x.id, x.idx)
      have hm2 := hmd.set (withPt (x.id, x.idx) (once (ps.take k)))
      by_cases hin : (x.id, x.idx) ∈ ps.take k
      · obtain ⟨q1, q2, q3, q4⟩ := old_pt hin
        rw [q1, q2] at f2
        rw [q2] at hm2
        rw [q1] at f1
        obtain ⟨wy, hwy⟩ : ∃ wy, wy = setB wx.drew m (.map (ents 0 (once (ps.take k))).toArray (once (ps.take k)).length) := ⟨_, rfl⟩
        rw [← hwy] at f2 hm2
        have f3 := lookup_pt hm2 (x.id, x.idx)
        rw [q1] at f3
        have f4 := store_pt hm2 _ q3 2
        have hm3 := hm2.set (putAt (once (ps.take k)) (atPt (x.id, x.idx) (once (ps.take k))) 2)
        obtain ⟨wz, hwz⟩ : ∃ wz, wz = setB wy m (.map (ents 0 (putAt (once (ps.take k)) (atPt (x.id, x.idx) (once (ps.take k))) 2)).toArray (putAt (once (ps.take k)) (atPt (x.id, x.idx) (once (ps.take k))) 2).length) := ⟨_, rfl⟩
        rw [← hwz] at f4 hm3
        have f5 := lookup_pt hm3 (x.id, x.idx)
        rw [q4] at f5
        have hbz : Below (w.heap.size + 1) wx wz := by
          have hm0 : w.heap.size + 1 ≤ m := by rw [HM.out]; exact Nat.le_refl _
          rw [hwz, hwy]
          exact below_setB (below_setB (w := wx) (wr := wx.drew) ⟨rfl, rfl, rfl, Nat.le_refl _, fun _ _ => rfl⟩ hm0 _) hm0 _
        have z0 : wz.cell? ⟨wo.heap.size, 0, none⟩ = some (.string x.id) := by rw [hwz, hwy, cell_setB (by simp; omega), cell_setB (by simp; omega)]; exact e0
        have z1 : wz.cell? ⟨wo.heap.size, 1, none⟩ = some (.int .u32 x.idx) := by rw [hwz, hwy, cell_setB (by simp; omega), cell_setB (by simp; omega)]; exact e1
        have HTZ := Lib.hid (htx.next' hbz)
        have HD := Lib.hid (dup_yes (nodup_not HPX.out hin))
        unfold ptV at f1 f2 f3 f5
        dsimp only at f1 f2 f3 f5
        generalize atPt (x.id, x.idx) (once (ps.take k)) = j at *
        clear hwy hwz htx hmx hmd hbx hx0 hm2 hm3 q1 q2 q3 q4 hin hbz d0 d1 d2 d3
        go_region
        go_wp2_with fail
        go_ret
        exact ⟨ret_bool HD.out.symm, HTZ.out.bel⟩
      · obtain ⟨q1, q2, q3, q4⟩ := new_pt hin
        rw [q1, q3, q2] at f2
        rw [q2] at hm2
        rw [q1] at f1
        obtain ⟨wy, hwy⟩ : ∃ wy, wy = setB wx.drew m (.map (ents 0 (once (ps.take k) ++ [((x.id, x.idx), 0)])).toArray (once (ps.take k) ++ [((x.id, x.idx), (0 : Int))]).length) := ⟨_, rfl⟩
        rw [← hwy] at f2 hm2
        have f3 := lookup_pt hm2 (x.id, x.idx)
        have hlv : lkV (x.id, x.idx) (once (ps.take k) ++ [((x.id, x.idx), 0)]) = 0 := lkV_zero hin
        rw [hlv] at f3
        have hlen : (ps.take k).length < (once (ps.take k) ++ [((x.id, x.idx), (0 : Int))]).length := by rw [List.length_append, once_len]; simp
        have f4 := store_pt hm2 (ps.take k).length hlen 1
        have hm3 := hm2.set (putAt (once (ps.take k) ++ [((x.id, x.idx), 0)]) (ps.take k).length 1)
        rw [q4] at f4 hm3
        obtain ⟨wz, hwz⟩ : ∃ wz, wz = setB wy m (.map (ents 0 (once (ps.take k ++ [(x.id, x.idx)]))).toArray (once (ps.take k ++ [(x.id, x.idx)])).length) := ⟨_, rfl⟩
        rw [← hwz] at f4 hm3
        have f5 := lookup_pt hm3 (x.id, x.idx)
        rw [lkV_new] at f5
        have hbz : Below (w.heap.size + 1) wx wz := by
          have hm0 : w.heap.size + 1 ≤ m := by rw [HM.out]; exact Nat.le_refl _
          rw [hwz, hwy]
          exact below_setB (below_setB (w := wx) (wr := wx.drew) ⟨rfl, rfl, rfl, Nat.le_refl _, fun _ _ => rfl⟩ hm0 _) hm0 _
        have z0 : wz.cell? ⟨wo.heap.size, 0, none⟩ = some (.string x.id) := by rw [hwz, hwy, cell_setB (by simp; omega), cell_setB (by simp; omega)]; exact e0
        have z1 : wz.cell? ⟨wo.heap.size, 1, none⟩ = some (.int .u32 x.idx) := by rw [hwz, hwy, cell_setB (by simp; omega), cell_setB (by simp; omega)]; exact e1
        have htz := htx.next' hbz
        have hndz := nodup_step HND.out HPX.out hin
        have htk : ps.take (k + 1) = ps.take k ++ [(x.id, x.idx)] := by rw [List.take_add_one, HPX.out]; rfl
        rw [← htk] at hm3
        have HTZ := Lib.hid htz
        have HMZ := Lib.hid hm3
        have HNZ := Lib.hid hndz
        unfold ptV at f1 f2 f3 f5
        dsimp only at f1 f2 f3 f5
        generalize (ps.take k).length = j at *
        clear hwy hwz htx hmx hmd hbx hx0 hm2 hm3 htz hndz htk hlen hlv q1 q2 q3 q4 hin hbz d0 d1 d2 d3
        go_region
        go_wp2_with fail
        go_roundg (n - (k + 1))
        case measure => have := HGK.out; omega
        case rel => exact ⟨k + 1, rfl, by omega, by go_num, HTZ.out, HMZ.out, HNZ.out⟩
    · obtain rfl : k = n := by omega
      have hpl : ps.take k = ps := List.take_of_length_le (by rw [HPS.out, HN.out]; unfold ptsOf; rw [List.length_map]; exact Nat.le_refl _)
      have HF := Lib.hid (dup_no (hpl ▸ HND.out))
      clear hpl
      go_wp2_with fail
      go_ret
      exact ⟨ret_bool HF.out.symm, HTB.out.bel⟩
end Go.Proofs.YtelindgnkpfkiaaGreatDoor
