/-
  CheckFeesCard, part 1: the texts Base, Rep, Txd, Txo, Conv, Tail, one after another. Conditions: none beyond those named at each.
-/
import Derived.Test.YtelindgnkpfkiaaGreatDoorProg
import Derived.WalkKit
import Derived.WalkSpells
import Derived.WalkLawsBesides
import Derived.Lib.Hide
import Derived.Deep.AppendSrc
import Derived.Deep.Quiet
import Derived.Deep.Upon
import Derived.Deep.RegionLaw
import Derived.ChangeArms
import Derived.ChangeShapes
import Derived.OpenShut
import Derived.StillTail
import Derived.BigQuiet
import Derived.Deep.QuietTactic
section
/-
  General lemmas for the walks of this claim: appending from any source, one law for any operation whose run is known, frames by sets of blocks. Conditions: none beyond each lemma's own.
-/
namespace Go.Proofs.YtelindgnkpfkiaaGreatDoor
open Go.RowKit

theorem ret_int {k : IntKind} {a b : Int} (h : a = b) : Ending.returned (.int k a) = .returned (.int k b) := by rw [h]
theorem ret_bool {a b : Bool} (h : a = b) : Ending.returned (.bool a) = .returned (.bool b) := by rw [h]

/-- min and max of two integers stay one term in a walk. -/
theorem min_int (ats : Array TypeId) (ty : TypeId) (k : IntKind) (x y : Int) : Builtin.min_ ats ty #[.int k x, .int k y] = pure (.int k (min x y)) := by
  simp only [Builtin.min_, List.foldlM, Builtin.min2, pure_bind]
  congr 2
  split <;> omega
theorem max_int (ats : Array TypeId) (ty : TypeId) (k : IntKind) (x y : Int) : Builtin.max_ ats ty #[.int k x, .int k y] = pure (.int k (max x y)) := by
  simp only [Builtin.max_, List.foldlM, Builtin.max2, pure_bind]
  congr 2
  split <;> omega
attribute [go_sem ↓] min_int max_int

section
variable {P : Program}

/-- One operation whose run is known, at a plain region. -/
theorem wpList_run {ops : Array Oper} {rest : List Oper} {o : Oper} {a : Act} {w w' : World} {v : Value} {Q : Exit → Act → World → Prop} (hg : o.guard = none)
    (hrun : (execOp a.eval o).run P w = .ok (.value v) w') (hK : wpList P ops Q rest (a.put o.dst v) w') : wpList P ops Q (o :: rest) a w := by
  refine wpList_plain hg fun K hK' => ?_
  unfold Oper.wp
  rw [hrun]
  exact hK' _ _ hK

/-- An append whose run is known. -/
theorem exec_append {o : Oper} {a : Act} {w w' : World} {v vs vx : Value} (s x : Operand) (t tx : TypeId)
    (ho : o.op = .call { callee := .builtin .append, args := #[s, x], argTypes := #[t, tx] }) (hs : a.eval s = vs) (hx : a.eval x = vx)
    (hrun : (Builtin.append_ #[t, tx] o.type #[vs, vx]).run P w = .ok v w') : (execOp a.eval o).run P w = .ok (.value v) w' := by
  simp [execOp, ho, resolve, invoke, builtin, hs, hx, hrun, Result.andThen]

theorem wpList_append_run {ops : Array Oper} {rest : List Oper} {o : Oper} {a : Act} {w w' : World} {v vs vx : Value} {Q : Exit → Act → World → Prop} (hg : o.guard = none) (s x : Operand) (t tx : TypeId)
    (ho : o.op = .call { callee := .builtin .append, args := #[s, x], argTypes := #[t, tx] }) (hs : a.eval s = vs) (hx : a.eval x = vx)
    (hrun : (Builtin.append_ #[t, tx] o.type #[vs, vx]).run P w = .ok v w') (hK : wpList P ops Q rest (a.put o.dst v) w') : wpList P ops Q (o :: rest) a w :=
  wpList_run hg (exec_append s x t tx ho hs hx hrun) hK

/-- The same as one step of a region that draws its order. -/
theorem step_append_run {ops : Array Oper} {o : Oper} {a : Act} {w w' : World} {v vs vx : Value} {K : Act → World → Prop} {Q : Exit → Act → World → Prop} {E : Prop} (hg : o.guard = none) (s x : Operand) (t tx : TypeId)
    (ho : o.op = .call { callee := .builtin .append, args := #[s, x], argTypes := #[t, tx] }) (hs : a.eval s = vs) (hx : a.eval x = vx)
    (hrun : (Builtin.append_ #[t, tx] o.type #[vs, vx]).run P w = .ok v w') (hK : K (a.put o.dst v) w') :
    if Region.wanted o (yielded ops a.tmps) = true then Oper.wp P o a w K Q else E := by
  have hw : Region.wanted o (yielded ops a.tmps) = true := by simp [Region.wanted, hg]
  rw [if_pos hw]
  unfold Oper.wp
  rw [exec_append s x t tx ho hs hx hrun]
  exact hK

/-- Appending from any source to a row of the call's own. -/
theorem append_own_src (w : World) (base : Nat) (t tx ty e : TypeId) (i : TypeInfo) (z : Value) (size bytes : Nat) (ht : P.underlying t = some (.slice e)) (hi : P.info? e = some i) (hz : i.zero = some z)
    (hsize : i.size = size) (hby : i.bytes = bytes) (hzs : z.cells.size = size)
    (v : Value) (n : Nat) (xs : List Value) (hown : w.ownsRow base e size v n xs)
    (x : Value) (m : Nat) (news : List Value) (hx : Src P size tx x m news w)
    (h63 : n + m ≤ maxLen) (hbytes : (n + m) * bytes ≤ 140737488355328) (hbase : base ≤ w.heap.size) :
    ∃ v' w', (Builtin.append_ #[t, tx] ty #[v, x]).run P w = .ok v' w' ∧ w'.ownsRow base e size v' (n + m) (xs ++ news) ∧ w.grownBy w' v.ownBlock ∧
      (v'.ownBlock = v.ownBlock ∨ v'.ownBlock = some w.heap.size) := by
  subst hsize
  subst hby
  have hsmall : n + m ≤ 9223372036854775807 := by simp only [maxLen] at h63; omega
  have hl := hx.newsLen
  have hlen : (xs ++ news).length = (n + m) * i.size := by rw [List.length_append, hown.1, hl, Nat.add_mul]
  have grown : ∀ (old : Nat), (w.drew.alloc (.cells ((xs ++ news).toArray ++ Builtin.zeroCells z.cells (grownCap w (n + m) old e - (n + m))) e)).ownsRow base e i.size
        (.slice (some ⟨w.heap.size, 0, none⟩) (n + m) (grownCap w (n + m) old e)) (n + m) (xs ++ news) ∧
      ∀ row, w.grownBy (w.drew.alloc (.cells ((xs ++ news).toArray ++ Builtin.zeroCells z.cells (grownCap w (n + m) old e - (n + m))) e)) row := by
    intro old
    have hge := grownCap_ge w (n + m) old e
    have hcm : grownCap w (n + m) old e ≤ maxLen := grownCap_le_maxLen w (n + m) old e h63
    refine ⟨⟨hlen, .inr ⟨w.heap.size, _, _, rfl, hbase, heap_alloc_new w.drew _, hge, hcm, ?_, ?_⟩⟩, fun row => ⟨rfl, rfl, rfl, by simp, fun k hk _ => Below.heap_alloc w.drew _ k hk⟩⟩
    · simp only [Array.size_append, List.size_toArray, size_zeroCells, hzs, hlen, ← Nat.add_mul]
      congr 1
      omega
    · rw [Array.toList_append, ← hlen]
      exact List.take_left
  rcases hown.2 with ⟨rfl, rfl⟩ | ⟨g, cap, cur, rfl, hbg, hg, hnc, hcm, hcs, htake⟩
  · have hx0 : xs = [] := List.eq_nil_of_length_eq_zero (by simpa using hown.1)
    subst hx0
    by_cases hm : m = 0
    · subst hm
      have hn : news = [] := List.eq_nil_of_length_eq_zero (by simpa using hl)
      subst hn
      exact ⟨.slice none 0 0, w, run_append_nothing (P := P) w t tx ty e i ht hi none 0 0 (Nat.le_refl _) x hx, World.ownsRow_nil w base e i.size, ⟨rfl, rfl, rfl, Nat.le_refl _, fun _ _ _ => rfl⟩, .inl rfl⟩
    · have hr := run_append_grow_src (P := P) w t tx ty e i z ht hi hz none 0 0 [] (run_firstCells_none w.drew i.size 0 0 0) x m news hx (by omega) (by omega) (growslice_fits (by omega) hbytes)
      have hgr := grown 0
      exact ⟨_, _, hr, hgr.1, hgr.2 _, .inr rfl⟩
  · by_cases hroom : n + m ≤ cap
    · have hfit : n * i.size + news.length ≤ cur.size := by rw [hl, hcs, ← Nat.add_mul]; exact Nat.mul_le_mul_right _ hroom
      have hst := run_storeCells_at P g (n * i.size) e news 0 cur w hg (by simpa using hfit) hx.one
      simp only [Nat.add_zero] at hst
      have hr : (Builtin.append_ #[t, tx] ty #[.slice (some ⟨g, 0, none⟩) n cap, x]).run P w =
          .ok (.slice (some ⟨g, 0, none⟩) (n + m) cap) (w.setRow g (cur.toList.take (n * i.size) ++ news ++ cur.toList.drop (n * i.size + news.length)).toArray) := by
        rcases hx.kind with ⟨e', hk⟩ | hk <;> simp [Builtin.append_, run_underlying ht, run_underlying hk, sizeOf, typeInfo, hi, hx.len, hroom, hx.cells, Addr.add_lit, hst]
      refine ⟨_, _, hr, ⟨hlen, .inr ⟨g, cap, _, rfl, hbg, setRow_heap w g cur _ e _ hg, hroom, hcm, ?_, ?_⟩⟩, ⟨rfl, rfl, rfl, by simp, fun k _ hk => setRow_other w g k _ (fun e => hk (by simp [Value.ownBlock, e]))⟩, .inl rfl⟩
      · simp only [List.size_toArray, List.length_append, List.length_take, List.length_drop, Array.length_toList]
        omega
      · rw [htake, ← hlen]
        exact List.take_left
    · have holds : ∀ j u, xs[j]? = some u → w.cell? ((⟨g, 0, none⟩ : Addr).add j) = some u := hown.cells (g := g) rfl
      have hr := run_append_grow_src (P := P) w t tx ty e i z ht hi hz (some ⟨g, 0, none⟩) n cap xs (run_firstCells_some w.drew i.size n ⟨g, 0, none⟩ n cap xs hown.1 (by simpa using holds)) x m news hx (by omega) (by omega) (growslice_fits (by omega) hbytes)
      have hgr := grown cap
      exact ⟨_, _, hr, hgr.1, hgr.2 _, .inr rfl⟩
end

/-- Between w and w' only the blocks of F have turned, and new ones came. -/
structure Fr (F : List Nat) (w w' : World) : Prop where
  os : w'.os = w.os
  tape : w'.tape = w.tape
  output : w'.output = w.output
  size : w.heap.size ≤ w'.heap.size
  block : ∀ k, k < w.heap.size → k ∉ F → w'.heap[k]? = w.heap[k]?

/-- The blocks of F' are of F, or new since w. -/
def Onto (w : World) (F F' : List Nat) : Prop := ∀ k ∈ F', k ∈ F ∨ w.heap.size ≤ k

theorem Fr.refl (F : List Nat) (w : World) : Fr F w w := ⟨rfl, rfl, rfl, Nat.le_refl _, fun _ _ _ => rfl⟩
theorem Onto.refl (w : World) (F : List Nat) : Onto w F F := fun _ h => .inl h
theorem Fr.trans {F F' : List Nat} {a b c : World} (h : Fr F a b) (o : Onto a F F') (k : Fr F' b c) : Fr F a c :=
  ⟨k.os.trans h.os, k.tape.trans h.tape, k.output.trans h.output, Nat.le_trans h.size k.size, fun i hi hn =>
    (k.block i (Nat.lt_of_lt_of_le hi h.size) (fun hm => (o i hm).elim hn (by omega))).trans (h.block i hi hn)⟩
theorem Onto.trans {F F' F'' : List Nat} {a b : World} (hs : a.heap.size ≤ b.heap.size) (h : Onto a F F') (k : Onto b F' F'') : Onto a F F'' :=
  fun i hi => (k i hi).elim (fun hm => h i hm) (fun hle => .inr (Nat.le_trans hs hle))
theorem Fr.mono {F F' : List Nat} {a b : World} (h : Fr F a b) (hs : ∀ k ∈ F, k ∈ F' ∨ a.heap.size ≤ k) : Fr F' a b :=
  ⟨h.os, h.tape, h.output, h.size, fun i hi hn => h.block i hi (fun hm => (hs i hm).elim hn (by omega))⟩
theorem Fr.below {F : List Nat} {a b : World} {B : Nat} (h : Fr F a b) (hB : B ≤ a.heap.size) (hF : ∀ k ∈ F, B ≤ k) : Below B a b :=
  ⟨h.os, h.tape, h.output, h.size, fun k hk => h.block k (by omega) (fun hm => by have := hF k hm; omega)⟩
theorem Fr.of_below {a b : World} (h : Below a.heap.size a b) (F : List Nat) : Fr F a b :=
  ⟨h.os, h.tape, h.output, h.size, fun k hk _ => h.block k hk⟩
theorem Fr.of_grown {F : List Nat} {a b : World} {row : Option Nat} (h : a.grownBy b row) (hr : ∀ k, row = some k → k ∈ F) : Fr F a b :=
  ⟨h.os, h.tape, h.output, h.size, fun k hk hn => h.block k hk (fun e => hn (hr k e.symm))⟩
theorem Fr.drew (F : List Nat) (a : World) : Fr F a a.drew := ⟨rfl, rfl, rfl, Nat.le_refl _, fun _ _ _ => rfl⟩
theorem Fr.setCell {F : List Nat} (a : World) (p : Addr) (u : Value) (hp : p.block ∈ F) : Fr F a (a.setCell p u) :=
  ⟨rfl, rfl, rfl, by simp [World.setCell], fun k _ hn => Below.heap_setCell _ _ _ _ (fun e => hn (e ▸ hp))⟩
theorem Fr.alloc (F : List Nat) (a : World) (o : Obj) : Fr F a (a.alloc o) := ⟨rfl, rfl, rfl, by simp, fun k hk _ => Below.heap_alloc a o k hk⟩
theorem Fr.cell {F : List Nat} {a b : World} (h : Fr F a b) {p : Addr} (hp : p.block < a.heap.size) (hn : p.block ∉ F) : b.cell? p = a.cell? p := World.cell?_of_block (h.block _ hp hn)

theorem ownsRow_of_block {w w' : World} {base e size n : Nat} {v : Value} {xs : List Value} (h : w.ownsRow base e size v n xs) (hb : ∀ k, v.ownBlock = some k → w'.heap[k]? = w.heap[k]?) : w'.ownsRow base e size v n xs := by
  refine ⟨h.1, ?_⟩
  rcases h.2 with hn | ⟨g, cap, cur, rfl, hbg, hg, rest⟩
  · exact .inl hn
  · exact .inr ⟨g, cap, cur, rfl, hbg, by rw [hb g rfl]; exact hg, rest⟩

theorem maxLen_eq : maxLen = 9223372036854775807 := by rfl

def bytesOf (l : List UInt8) : List Value := l.map fun b => Value.int .u8 b.toNat
theorem bytesOf_length (l : List UInt8) : (bytesOf l).length = l.length := by simp [bytesOf]
theorem bytesOf_append (l m : List UInt8) : bytesOf (l ++ m) = bytesOf l ++ bytesOf m := by simp [bytesOf]
theorem byteCells_eq (s : ByteArray) : byteCells s = bytesOf s.data.toList := rfl
theorem mk_size (l : List UInt8) : (ByteArray.mk l.toArray).size = l.length := by simp [ByteArray.size]
theorem mk_append (l : List UInt8) (s : ByteArray) : ByteArray.mk l.toArray ++ s = ⟨(l ++ s.data.toList).toArray⟩ := by apply ByteArray.ext; simp
theorem mk_mk (l m : List UInt8) : ByteArray.mk l.toArray ++ ByteArray.mk m.toArray = ⟨(l ++ m).toArray⟩ := by apply ByteArray.ext; simp
theorem mk_cut (s : ByteArray) (n : Nat) : (s.extract 0 n).data.toList = s.data.toList.take n := by simp
theorem mk_take (l : List UInt8) (n : Nat) : (ByteArray.mk l.toArray).extract 0 n = ⟨(l.take n).toArray⟩ := by apply ByteArray.ext; simp
theorem mk_data (s : ByteArray) : ByteArray.mk s.data.toList.toArray = s := by apply ByteArray.ext; simp
theorem data_len (s : ByteArray) : s.data.toList.length = s.size := by simp

theorem heap_setCell_at {w : World} {b j : Nat} {cs : Array Value} {t : TypeId} {u : Value} (h : w.heap[b]? = some (.cells cs t (0, 0))) :
    (w.setCell ⟨b, j, none⟩ u).heap[b]? = some (.cells (cs.setIfInBounds j u) t (0, 0)) := by
  obtain ⟨hlt, hv⟩ := Array.getElem?_eq_some_iff.1 h
  unfold World.setCell
  rw [Array.getElem?_eq_getElem (by simpa using hlt), Array.getElem_modify]
  simp [hv]
theorem cell_at {w : World} {b j : Nat} {cs : Array Value} {t : TypeId} (h : w.heap[b]? = some (.cells cs t (0, 0))) : w.cell? ⟨b, j, none⟩ = cs[j]? := by
  simp [World.cell?, h]
theorem free_at {w : World} {b j : Nat} {cs : Array Value} {t : TypeId} (h : w.heap[b]? = some (.cells cs t (0, 0))) : w.frozen? ⟨b, j, none⟩ = false := by
  simp [World.frozen?, h]

theorem ownsRow_shape {w : World} {base e size n : Nat} {v : Value} {xs : List Value} (h : w.ownsRow base e size v n xs) : ∃ a c, v = .slice a n c ∧ n ≤ c ∧ c ≤ maxLen := by
  rcases h.2 with ⟨rfl, rfl⟩ | ⟨g, cap, cur, rfl, _, _, h1, h2, _⟩
  · exact ⟨_, _, rfl, Nat.le_refl _, by simp⟩
  · exact ⟨_, _, rfl, h1, h2⟩
theorem ownsRow_base {w : World} {base base' e size n : Nat} {v : Value} {xs : List Value} (h : w.ownsRow base e size v n xs) (hb : base' ≤ base) : w.ownsRow base' e size v n xs := by
  refine ⟨h.1, ?_⟩
  rcases h.2 with hn | ⟨g, cap, cur, e1, hbg, rest⟩
  · exact .inl hn
  · exact .inr ⟨g, cap, cur, e1, Nat.le_trans hb hbg, rest⟩
theorem ownsRow_cut {w : World} {base e n m c : Nat} {a : Option Addr} {xs : List Value} (h : w.ownsRow base e 1 (.slice a n c) n xs) (hm : m ≤ n) : w.ownsRow base e 1 (.slice a m c) m (xs.take m) := by
  have hl := h.1
  refine ⟨by rw [List.length_take]; omega, ?_⟩
  rcases h.2 with ⟨h1, h2⟩ | ⟨g, cap, cur, h1, hb, hg, h2, h3, h4, h5⟩
  · obtain ⟨rfl, rfl, rfl⟩ : a = none ∧ n = 0 ∧ c = 0 := by simpa using h1
    obtain rfl : m = 0 := by omega
    exact .inl ⟨rfl, rfl⟩
  · obtain ⟨rfl, rfl⟩ : a = some ⟨g, 0, none⟩ ∧ c = cap := by simpa using h1
    refine .inr ⟨g, c, cur, rfl, hb, hg, by omega, h3, h4, ?_⟩
    rw [← h5, List.take_take]
    congr 1
    omega
/-- What is owned from a base on stays owned if nothing but new blocks comes. -/
theorem ownsRow_below {w w' : World} {base e size n : Nat} {v : Value} {xs : List Value} (h : w.ownsRow base e size v n xs) (hb : Below w.heap.size w w') : w'.ownsRow base e size v n xs :=
  ownsRow_of_block h fun k hk => hb.block k (h.lt k hk).2

section
variable {P : Program}
/-- 'append(s, x)': one element, which the statement has laid into a block of its own. -/
theorem append_el {w : World} {base t ty e size bytes n : Nat} {i : TypeInfo} {z v : Value} {xs : List Value} (ht : P.underlying t = some (.slice e)) (hi : P.info? e = some i) (hz : i.zero = some z)
    (hsize : i.size = size) (hby : i.bytes = bytes) (hzs : z.cells.size = size) (hown : w.ownsRow base e size v n xs) (cs : Array Value) (hcs : cs.size = size) (h1 : ∀ u ∈ cs.toList, u.oneCell' = true)
    (hn : n + 1 ≤ maxLen) (hb : (n + 1) * bytes ≤ 140737488355328) (hbase : base ≤ w.heap.size) :
    ∃ a' c' w', (Builtin.append_ #[t, t] ty #[v, .slice (some ⟨w.heap.size, 0, none⟩) 1 1]).run P (w.alloc (.cells cs e)) = .ok (.slice a' (n + 1) c') w' ∧
      w'.ownsRow base e size (.slice a' (n + 1) c') (n + 1) (xs ++ cs.toList) ∧ Below base w w' ∧ (w.alloc (.cells cs e)).grownBy w' v.ownBlock := by
  obtain ⟨v', w', hr, ho, hg, _⟩ := append_own_src (P := P) (w.alloc (.cells cs e)) base t t ty e i z size bytes ht hi hz hsize hby hzs v n xs (hown.alloc _) (.slice (some ⟨w.heap.size, 0, none⟩) 1 1) 1 cs.toList
    (Src.ofSlice _ ht ⟨w.heap.size, 0, none⟩ 1 1 cs.toList (by simp [hcs]) (fun j u hj => by
      rw [Addr.add_lit, Nat.zero_add, cell_at (heap_alloc_new w (.cells cs e))]
      simpa using hj) h1) hn hb (by simp; omega)
  obtain ⟨a', c', rfl, _, _⟩ := ownsRow_shape ho
  exact ⟨a', c', w', hr, ho, ((Below.refl base w).alloc hbase _).grown hg (by simp; omega) (fun k hk => (hown.lt k hk).1), hg⟩
end

end Go.Proofs.YtelindgnkpfkiaaGreatDoor
end

section
/-
  How plain data lies in memory: strings, integers, bools, slices of anything; kept by whatever leaves the blocks that were there alone. Conditions: none beyond each lemma's own.
-/
namespace Go.Proofs.YtelindgnkpfkiaaGreatDoor
open Go.RowKit
set_option linter.unusedVariables false

/-- A kind of data that lies in so many cells. -/
structure Rp (α : Type) where
  size : Nat
  at_ : World → List Value → α → Prop
  mono : ∀ {w w' : World} {cs : List Value} {x : α}, (∀ p v, w.cell? p = some v → w'.cell? p = some v) → at_ w cs x → at_ w' cs x

def rpStr : Rp ByteArray := ⟨1, fun _ cs s => cs = [.string s] ∧ s.size ≤ maxLen, fun _ h => h⟩
def rpBool : Rp Bool := ⟨1, fun _ cs b => cs = [.bool b], fun _ h => h⟩
def rpInt (k : IntKind) : Rp Int := ⟨1, fun _ cs n => cs = [.int k n] ∧ (Lit.int k n).wf = true, fun _ h => h⟩

/-- The elements of a slice: at each place the cells of one. -/
def SlAt {α : Type} (R : Rp α) (w : World) (v : Value) (xs : List α) : Prop :=
  ∃ a c, v = .slice a xs.length c ∧ xs.length ≤ c ∧ c ≤ maxLen ∧
    ∀ i x, xs[i]? = some x → ∃ b o cs, a = some ⟨b, o, none⟩ ∧ cs.length = R.size ∧ (∀ j u, cs[j]? = some u → w.cell? ⟨b, o + i * R.size + j, none⟩ = some u) ∧ R.at_ w cs x

def rpSl {α : Type} (R : Rp α) : Rp (List α) := ⟨1, fun w cs xs => ∃ v, cs = [v] ∧ SlAt R w v xs, fun hw ⟨v, hv, a, c, h1, h2, h3, h4⟩ =>
  ⟨v, hv, a, c, h1, h2, h3, fun i x hi => let ⟨b, o, cs, e1, e2, e3, e4⟩ := h4 i x hi; ⟨b, o, cs, e1, e2, fun j u hj => hw _ _ (e3 j u hj), R.mono hw e4⟩⟩⟩

theorem below_cells {w w' : World} (h : Below w.heap.size w w') : ∀ p v, w.cell? p = some v → w'.cell? p = some v := fun p v hp => by
  rw [h.cell (World.block_lt_of_cell? w p hp)]; exact hp
theorem SlAt.mono {α : Type} {R : Rp α} {w w' : World} {v : Value} {xs : List α} (h : SlAt R w v xs) (hw : ∀ p v, w.cell? p = some v → w'.cell? p = some v) : SlAt R w' v xs := by
  obtain ⟨a, c, h1, h2, h3, h4⟩ := h
  exact ⟨a, c, h1, h2, h3, fun i x hi => let ⟨b, o, cs, e1, e2, e3, e4⟩ := h4 i x hi; ⟨b, o, cs, e1, e2, fun j u hj => hw _ _ (e3 j u hj), R.mono hw e4⟩⟩
theorem SlAt.below {α : Type} {R : Rp α} {w w' : World} {v : Value} {xs : List α} (h : SlAt R w v xs) (hb : Below w.heap.size w w') : SlAt R w' v xs := h.mono (below_cells hb)

theorem list_of_each {α : Type} {Q : Nat → α → Prop} : ∀ {len : Nat}, (∀ i, i < len → ∃ x, Q i x) → ∃ xs : List α, xs.length = len ∧ ∀ i x, xs[i]? = some x → Q i x
  | 0, _ => ⟨[], rfl, fun i x hi => by simp at hi⟩
  | m + 1, each => by
    obtain ⟨xs, h1, h2⟩ := list_of_each (fun i hi => each i (Nat.lt_succ_of_lt hi) : ∀ i, i < m → _)
    obtain ⟨x, hx⟩ := each m (Nat.lt_succ_self m)
    refine ⟨xs ++ [x], by simp [h1], fun i y hi => ?_⟩
    rcases Nat.lt_or_ge i m with hlt | hge
    · rw [List.getElem?_append_left (by omega)] at hi
      exact h2 i y hi
    · rw [List.getElem?_append_right (by omega)] at hi
      have hi0 : i = m := by
        have := (List.getElem?_eq_some_iff.1 hi).1
        simp at this; omega
      subst hi0
      rw [h1, Nat.sub_self] at hi
      simp at hi
      subst hi
      exact hx

/-- The first elements. -/
theorem SlAt.shape {α : Type} {R : Rp α} {w : World} {v : Value} {xs : List α} (h : SlAt R w v xs) : ∃ a c, v = .slice a xs.length c ∧ xs.length ≤ c ∧ c ≤ maxLen := by
  obtain ⟨a, c, h1, h2, h3, _⟩ := h; exact ⟨a, c, h1, h2, h3⟩

section
variable {H : Type} {enc : TypeId × Value → H} {P : Program} {w : World} {spare : Nat → Bool} {held : Bool}

theorem rp_of_str {t : TypeId} {fuel : Nat} {cs : List Value} {y : DataW H × List MemPlace} (ht : P.underlying t = some .string) (h : DataW.trod enc P w 0 spare held fuel t cs = some y) : ∃ s, rpStr.at_ w cs s := by
  obtain ⟨s, h1, _, h2⟩ := DataW.trod_string ht h
  exact ⟨s, h1, h2⟩
theorem rp_of_int {t : TypeId} {k : IntKind} {fuel : Nat} {cs : List Value} {y : DataW H × List MemPlace} (ht : P.underlying t = some (.int k)) (h : DataW.trod enc P w 0 spare held fuel t cs = some y) : ∃ n, (rpInt k).at_ w cs n := by
  obtain ⟨n, h1, _, h2⟩ := DataW.trod_int ht h
  exact ⟨n, h1, h2⟩
theorem rp_of_bool {t : TypeId} {fuel : Nat} {cs : List Value} {y : DataW H × List MemPlace} (ht : P.underlying t = some .bool) (h : DataW.trod enc P w 0 spare held fuel t cs = some y) : ∃ b, rpBool.at_ w cs b := by
  obtain ⟨b, h1, _⟩ := DataW.trod_bool ht h
  exact ⟨b, h1⟩

theorem rp_of_slice {α : Type} {R : Rp α} {t e : TypeId} {fuel : Nat} {cs : List Value} {y : DataW H × List MemPlace} (ht : P.underlying t = some (.slice e)) (hs : P.cellsOf e = R.size) (hpos : 0 < R.size)
    (hE : ∀ fuel cs y, DataW.trod enc P w 0 spare held fuel e cs = some y → ∃ x, R.at_ w cs x)
    (h : DataW.trod enc P w 0 spare held fuel t cs = some y) : ∃ xs : List α, (rpSl R).at_ w cs xs := by
  rcases DataW.trod_slice ht h with ⟨rfl, _⟩ | ⟨a, len, cap, elems, rest, n, _, rfl, _, _, hlc, hcm, hel, hat, _, _⟩
  · exact ⟨[], _, rfl, none, 0, rfl, Nat.le_refl _, by simp, fun i x hi => by simp at hi⟩
  · rw [hs] at hat
    -- each element
    have each : ∀ i, i < len → ∃ x, ∃ cs, a.spot = none ∧ cs.length = R.size ∧ (∀ j u, cs[j]? = some u → w.cell? ⟨a.block, a.off + i * R.size + j, none⟩ = some u) ∧ R.at_ w cs x := by
      intro i hi
      have h1 := hat i hi
      rw [List.getElem?_eq_getElem (by omega)] at h1
      obtain ⟨cs, hcs, hx⟩ := Option.bind_eq_some_iff.1 h1
      obtain ⟨x, hx⟩ := hE n cs _ hx
      obtain ⟨_, hl, hc⟩ := World.cells?_some hcs
      have hspot : a.spot = none := by
        have h2 := hat 0 (by omega)
        rw [List.getElem?_eq_getElem (by omega)] at h2
        obtain ⟨cs0, hcs0, _⟩ := Option.bind_eq_some_iff.1 h2
        obtain ⟨_, hl0, hc0⟩ := World.cells?_some hcs0
        have h3 := hc0 0 (by omega)
        rw [List.getElem?_eq_getElem (by omega)] at h3
        simpa [Addr.add] using World.cell?_spot h3
      refine ⟨x, cs, hspot, hl, fun j u hj => ?_, hx⟩
      have hjl : j < R.size := by rw [← hl]; exact (List.getElem?_eq_some_iff.1 hj).1
      have h4 := hc j hjl
      have ha : a = ⟨a.block, a.off, none⟩ := by cases a; simp_all
      rw [ha, Addr.add_lit, Addr.add_lit] at h4
      rw [h4]; exact hj
    obtain ⟨xs, hxl, hxs⟩ := list_of_each each
    subst hxl
    refine ⟨xs, _, rfl, some a, cap, rfl, hlc, hcm, fun i x hi => ?_⟩
    obtain ⟨cs, h1, h2, h3, h4⟩ := hxs i x hi
    exact ⟨a.block, a.off, cs, by cases a; simp_all, h2, h3, h4⟩
end

/-! ### rows of the call's own: a store, another's store, the block -/
/-- A store into a row of one's own. -/
theorem ownsRow_set {w : World} {base e size n c b : Nat} {xs : List Value} (h : w.ownsRow base e size (.slice (some ⟨b, 0, none⟩) n c) n xs) {j : Nat} (hj : j < xs.length) (u : Value) :
    (w.setCell ⟨b, j, none⟩ u).ownsRow base e size (.slice (some ⟨b, 0, none⟩) n c) n (xs.set j u) := by
  refine ⟨by rw [List.length_set]; exact h.1, ?_⟩
  rcases h.2 with ⟨h1, h2⟩ | ⟨g, cap, cur, h1, hb, hg, h2, h3, h4, h5⟩
  · cases h1
  · obtain ⟨rfl, rfl⟩ : b = g ∧ c = cap := by simpa using h1
    have hl := h.1
    have hm : n * size ≤ c * size := Nat.mul_le_mul_right _ h2
    refine .inr ⟨b, c, cur.setIfInBounds j u, rfl, hb, heap_setCell_at hg, h2, h3, by simpa using h4, ?_⟩
    rw [Array.toList_setIfInBounds, List.take_set, h5]
theorem ownsRow_other {w : World} {base e size n : Nat} {v : Value} {xs : List Value} (h : w.ownsRow base e size v n xs) (p : Addr) (u : Value) (hp : v.ownBlock ≠ some p.block) : (w.setCell p u).ownsRow base e size v n xs :=
  ownsRow_of_block h fun k hk => Below.heap_setCell _ _ _ _ (fun e => hp (by rw [hk, e]))
/-- The block of a row that is not empty. -/
theorem ownsRow_some {w : World} {base e size n c : Nat} {a : Option Addr} {xs : List Value} (h : w.ownsRow base e size (.slice a n c) n xs) (hn : 0 < n) : ∃ b, a = some ⟨b, 0, none⟩ ∧ base ≤ b ∧ b < w.heap.size := by
  rcases h.2 with ⟨h1, h2⟩ | ⟨g, cap, cur, h1, hb, hg, h2, h3, h4, h5⟩
  · omega
  · obtain ⟨rfl, rfl⟩ : a = some ⟨g, 0, none⟩ ∧ c = cap := by simpa using h1
    exact ⟨g, rfl, hb, (Array.getElem?_eq_some_iff.1 hg).1⟩

theorem ownsRow_free {w : World} {base e size n m c b : Nat} {xs : List Value} (h : w.ownsRow base e size (.slice (some ⟨b, 0, none⟩) n c) m xs) (j : Nat) : w.frozen? ⟨b, j, none⟩ = false := by
  rcases h.2 with ⟨h1, h2⟩ | ⟨g, cap, cur, h1, hb, hg, h2, h3, h4, h5⟩
  · cases h1
  · obtain ⟨rfl, -, -⟩ : b = g ∧ n = m ∧ c = cap := by simpa using h1
    exact free_at hg

end Go.Proofs.YtelindgnkpfkiaaGreatDoor
end

section
/-
  Transactions as plain data, and how they lie in memory. Conditions: none beyond each lemma's own.
-/
namespace Go.Proofs.YtelindgnkpfkiaaGreatDoor
open Go.RowKit
set_option linter.unusedVariables false

theorem SlAt.at {α : Type} {R : Rp α} {w : World} {a : Option Addr} {n c i : Nat} {xs : List α} (h : SlAt R w (.slice a n c) xs) (hi : i < n) : ∃ b o x cs, a = some ⟨b, o, none⟩ ∧ xs[i]? = some x ∧ cs.length = R.size ∧
    (∀ j u, cs[j]? = some u → w.cell? ⟨b, o + i * R.size + j, none⟩ = some u) ∧ R.at_ w cs x := by
  obtain ⟨a', c', h1, h2, h3, h4⟩ := h
  obtain ⟨rfl, rfl, rfl⟩ : a = a' ∧ n = xs.length ∧ c = c' := by simpa using h1
  obtain ⟨b, o, cs, h5, h6, h7, h8⟩ := h4 i xs[i] (List.getElem?_eq_getElem hi)
  exact ⟨b, o, _, cs, h5, List.getElem?_eq_getElem hi, h6, h7, h8⟩
theorem SlAt.len {α : Type} {R : Rp α} {w : World} {a : Option Addr} {n c : Nat} {xs : List α} (h : SlAt R w (.slice a n c) xs) : xs.length = n ∧ n ≤ c ∧ c ≤ maxLen := by
  obtain ⟨a', c', h1, h2, h3, _⟩ := h
  obtain ⟨rfl, rfl, rfl⟩ : a = a' ∧ n = xs.length ∧ c = c' := by simpa using h1
  exact ⟨rfl, h2, h3⟩

theorem sl_nil {α : Type} {R : Rp α} {w : World} : SlAt R w (.slice none 0 0) [] := ⟨none, 0, rfl, Nat.le_refl _, Nat.zero_le _, fun i x h => by simp at h⟩
theorem SlAt.str {w : World} {a : Option Addr} {n c i : Nat} {xs : List ByteArray} (h : SlAt rpStr w (.slice a n c) xs) (hi : i < n) : ∃ (b o : Nat) (x : ByteArray), a = some ⟨b, o, none⟩ ∧ xs[i]? = some x ∧ x.size ≤ 9223372036854775807 ∧
    w.cell? ⟨b, o + i, none⟩ = some (.string x) := by
  obtain ⟨b, o, x, cs, h1, h2, h3, h4, h5, h6⟩ := h.at hi
  subst h5
  refine ⟨b, o, x, h1, h2, h6, ?_⟩
  have := h4 0 _ rfl
  simpa [rpStr] using this

theorem SlAt.cut {α : Type} {R : Rp α} {w : World} {a : Option Addr} {n m c : Nat} {xs : List α} (h : SlAt R w (.slice a n c) xs) (hm : m ≤ n) : SlAt R w (.slice a m c) (xs.take m) := by
  obtain ⟨hl, h2, h3⟩ := h.len
  have hlm : (xs.take m).length = m := by rw [List.length_take]; omega
  refine ⟨a, c, by rw [hlm], by omega, h3, fun i x hi => ?_⟩
  have him : i < m := by have := (List.getElem?_eq_some_iff.1 hi).1; omega
  rw [List.getElem?_take_of_lt him] at hi
  obtain ⟨b, o, y, cs, h5, h6, h7, h8, h9⟩ := h.at (i := i) (by omega)
  rw [hi] at h6
  obtain rfl : x = y := Option.some.inj h6
  exact ⟨b, o, cs, h5, h7, h8, h9⟩

/-- An input, an output, a transaction, as plain data. -/
structure PIn where
  id : ByteArray
  idx : Nat
  seq : Nat
  wit : List ByteArray
structure POut where
  val : Int
  script : ByteArray
structure PTx where
  ver : Nat
  ins : List PIn
  outs : List POut
  lock : Nat
def rpIn : Rp PIn := ⟨4, fun w cs x => ∃ wv, cs = [.string x.id, .int .u32 x.idx, .int .u32 x.seq, wv] ∧ SlAt rpStr w wv x.wit ∧ x.id.size ≤ maxLen ∧ x.idx < 4294967296 ∧ x.seq < 4294967296,
  fun hw ⟨wv, h1, h2, h3⟩ => ⟨wv, h1, h2.mono hw, h3⟩⟩
def rpOut : Rp POut := ⟨2, fun _ cs x => cs = [.int .i64 x.val, .string x.script] ∧ (-9223372036854775808 ≤ x.val ∧ x.val ≤ 9223372036854775807) ∧ x.script.size ≤ maxLen, fun _ h => h⟩
def TxAt (w : World) (v : Value) (t : PTx) : Prop := ∃ a b, v = .agg #[.int .u32 t.ver, a, b, .int .u32 t.lock] ∧ SlAt rpIn w a t.ins ∧ SlAt rpOut w b t.outs ∧ t.ver < 4294967296 ∧ t.lock < 4294967296
theorem TxAt.mono {w w' : World} {v : Value} {t : PTx} (h : TxAt w v t) (hw : ∀ p v, w.cell? p = some v → w'.cell? p = some v) : TxAt w' v t :=
  let ⟨a, b, h1, h2, h3, h4⟩ := h; ⟨a, b, h1, h2.mono hw, h3.mono hw, h4⟩
theorem TxAt.below {w w' : World} {v : Value} {t : PTx} (h : TxAt w v t) (hb : Below w.heap.size w w') : TxAt w' v t := h.mono (below_cells hb)

theorem SlAt.inp {w : World} {a : Option Addr} {n c i : Nat} {xs : List PIn} (h : SlAt rpIn w (.slice a n c) xs) (hi : i < n) : ∃ (b o : Nat) (x : PIn) (wv : Value), a = some ⟨b, o, none⟩ ∧ xs[i]? = some x ∧ x.seq < 4294967296 ∧ x.idx < 4294967296 ∧ x.id.size ≤ 9223372036854775807 ∧
    SlAt rpStr w wv x.wit ∧ w.cell? ⟨b, o + i * 4, none⟩ = some (.string x.id) ∧ w.cell? ⟨b, o + i * 4 + 1, none⟩ = some (.int .u32 x.idx) ∧ w.cell? ⟨b, o + i * 4 + 2, none⟩ = some (.int .u32 x.seq) ∧ w.cell? ⟨b, o + i * 4 + 3, none⟩ = some wv := by
  obtain ⟨b, o, x, cs, h1, h2, h3, h4, wv, h5, h6, h7, h8, h9⟩ := h.at hi
  subst h5
  exact ⟨b, o, x, wv, h1, h2, h9, h8, h7, h6, h4 0 _ rfl, h4 1 _ rfl, h4 2 _ rfl, h4 3 _ rfl⟩

theorem cell_over {w : World} {p : Addr} {v : Value} (h : w.cell? p = some v) (ob : Obj) : (w.alloc ob).cell? p = some v :=
  below_cells ((Below.refl _ _).alloc (Nat.le_refl _) ob) p v h

theorem tx_in {w : World} {v : Value} {t : PTx} {i : Nat} (h : TxAt w v t) (hi : i < t.ins.length) : ∃ (b o n c : Nat) (au : Option Addr) (nu cu : Nat) (x : PIn) (wv : Value), v = .agg #[.int .u32 t.ver, .slice (some ⟨b, o, none⟩) n c, .slice au nu cu, .int .u32 t.lock] ∧ n = t.ins.length ∧ n ≤ 9223372036854775807 ∧
    t.ins[i]? = some x ∧ x.seq < 4294967296 ∧ t.ver < 4294967296 ∧ t.lock < 4294967296 ∧ SlAt rpStr w wv x.wit ∧ w.cell? ⟨b, o + i * 4 + 2, none⟩ = some (.int .u32 x.seq) ∧ w.cell? ⟨b, o + i * 4 + 3, none⟩ = some wv := by
  obtain ⟨a, u, rfl, h1, h2, h3, h4⟩ := h
  obtain ⟨au, cu, rfl, -, -⟩ := h2.shape
  obtain ⟨a', c, rfl, hl1, hl2⟩ := h1.shape
  obtain ⟨b, o, x, wv, rfl, hx, h5, -, -, h6, -, -, h7, h8⟩ := h1.inp hi
  exact ⟨b, o, _, c, au, _, cu, x, wv, rfl, rfl, by rw [maxLen_eq] at hl2; omega, hx, h5, h3, h4, h6, h7, h8⟩
theorem wf_u16 {n : Int} (h : (Lit.int .u16 n).wf = true) : 0 ≤ n ∧ n ≤ 65535 := by simpa [Lit.wf, IntKind.min, IntKind.max, IntKind.signed, IntKind.bits] using h
theorem wf_u32 {n : Int} (h : (Lit.int .u32 n).wf = true) : 0 ≤ n ∧ n ≤ 4294967295 := by simpa [Lit.wf, IntKind.min, IntKind.max, IntKind.signed, IntKind.bits] using h
theorem wf_i64 {n : Int} (h : (Lit.int .i64 n).wf = true) : -9223372036854775808 ≤ n ∧ n ≤ 9223372036854775807 := by simpa [Lit.wf, IntKind.min, IntKind.max, IntKind.signed, IntKind.bits] using h


section
open Go.ChangeShapes Go.WideShapes
variable {H : Type} {enc : TypeId × Value → H} {w : World} {spare : Nat → Bool} {held : Bool}

set_option maxRecDepth 100000 in
theorem rp_of_point {fuel : Nat} {cs : List Value} {y : DataW H × List MemPlace} (h : DataW.trod enc Tryz.prog w 0 spare held fuel 46 cs = some y) : ∃ (s : ByteArray) (n : Nat), cs = [.string s, .int .u32 n] ∧ s.size ≤ maxLen ∧ n < 4294967296 := by
  obtain ⟨xs, n, _, _, hl, hlen, hf⟩ := DataW.trod_struct Tryz.underlying46 h
  have hc : Tryz.prog.cellsOf 46 = 2 := by kernel_rfl
  rw [hc] at hl
  match cs, hl with
  | [c0, c1], _ =>
    have hlen' : xs.length = 2 := hlen
    have g0 := hf 0 _ rfl
    have g1 := hf 1 _ rfl
    rw [List.getElem?_eq_getElem (by omega)] at g0 g1
    obtain ⟨n0, e0, w0⟩ := rp_of_str Tryz.underlying9 g0
    obtain ⟨n1, e1, w1⟩ := rp_of_int Tryz.underlying25 g1
    have k0 : Tryz.prog.cellsOf 9 = 1 := by kernel_rfl
    have k1 : Tryz.prog.cellsOf 25 = 1 := by kernel_rfl
    have e0' : ([c0, c1].drop 0).take (Tryz.prog.cellsOf 9) = [.string n0] := e0
    have e1' : ([c0, c1].drop 1).take (Tryz.prog.cellsOf 25) = [.int .u32 n1] := e1
    rw [k0] at e0'
    rw [k1] at e1'
    have f0 : c0 = .string n0 := by simpa using e0'
    have f1 : c1 = .int .u32 n1 := by simpa using e1'
    have b1 : 0 ≤ n1 ∧ n1 ≤ 4294967295 := wf_u32 w1
    refine ⟨n0, n1.toNat, ?_, w0, by omega⟩
    rw [f0, f1, show ((n1.toNat : Nat) : Int) = n1 by omega]

set_option maxRecDepth 100000 in
theorem rp_of_in {fuel : Nat} {cs : List Value} {y : DataW H × List MemPlace} (h : DataW.trod enc Tryz.prog w 0 spare held fuel 56 cs = some y) : ∃ x, rpIn.at_ w cs x := by
  obtain ⟨xs, n, _, _, hl, hlen, hf⟩ := DataW.trod_struct Tryz.underlying56 h
  have hc : Tryz.prog.cellsOf 56 = 4 := by kernel_rfl
  rw [hc] at hl
  match cs, hl with
  | [c0, c1, c2, c3], _ =>
    have hlen' : xs.length = 3 := hlen
    have g0 := hf 0 _ rfl
    have g1 := hf 1 _ rfl
    have g2 := hf 2 _ rfl
    rw [List.getElem?_eq_getElem (by omega)] at g0 g1 g2
    obtain ⟨n0, n1, e0, w0, w1⟩ := rp_of_point g0
    obtain ⟨n2, e2, w2⟩ := rp_of_int Tryz.underlying25 g1
    obtain ⟨ws, v, e3, w3⟩ := rp_of_slice (R := rpStr) Tryz.underlying54 (by kernel_rfl) (by decide) (fun _ _ _ => rp_of_str Tryz.underlying9) g2
    have k0 : Tryz.prog.cellsOf 46 = 2 := by kernel_rfl
    have k1 : Tryz.prog.cellsOf 25 = 1 := by kernel_rfl
    have k2 : Tryz.prog.cellsOf 54 = 1 := by kernel_rfl
    have e0' : ([c0, c1, c2, c3].drop 0).take (Tryz.prog.cellsOf 46) = [.string n0, .int .u32 n1] := e0
    have e2' : ([c0, c1, c2, c3].drop 2).take (Tryz.prog.cellsOf 25) = [.int .u32 n2] := e2
    have e3' : ([c0, c1, c2, c3].drop 3).take (Tryz.prog.cellsOf 54) = [v] := e3
    rw [k0] at e0'
    rw [k1] at e2'
    rw [k2] at e3'
    obtain ⟨f0, f1⟩ : c0 = .string n0 ∧ c1 = .int .u32 n1 := by simpa using e0'
    have f2 : c2 = .int .u32 n2 := by simpa using e2'
    have f3 : c3 = v := by simpa using e3'
    have b2 : 0 ≤ n2 ∧ n2 ≤ 4294967295 := wf_u32 w2
    refine ⟨⟨n0, n1, n2.toNat, ws⟩, v, ?_, w3, w0, w1, by dsimp only; omega⟩
    dsimp only
    rw [f0, f1, f2, f3, show ((n2.toNat : Nat) : Int) = n2 by omega]

set_option maxRecDepth 100000 in
theorem rp_of_out {fuel : Nat} {cs : List Value} {y : DataW H × List MemPlace} (h : DataW.trod enc Tryz.prog w 0 spare held fuel 48 cs = some y) : ∃ x, rpOut.at_ w cs x := by
  obtain ⟨xs, n, _, _, hl, hlen, hf⟩ := DataW.trod_struct Tryz.underlying48 h
  have hc : Tryz.prog.cellsOf 48 = 2 := by kernel_rfl
  rw [hc] at hl
  match cs, hl with
  | [c0, c1], _ =>
    have hlen' : xs.length = 2 := hlen
    have g0 := hf 0 _ rfl
    have g1 := hf 1 _ rfl
    rw [List.getElem?_eq_getElem (by omega)] at g0 g1
    obtain ⟨n0, e0, w0⟩ := rp_of_int Tryz.underlying3 g0
    obtain ⟨n1, e1, w1⟩ := rp_of_str Tryz.underlying9 g1
    have k0 : Tryz.prog.cellsOf 3 = 1 := by kernel_rfl
    have k1 : Tryz.prog.cellsOf 9 = 1 := by kernel_rfl
    have e0' : ([c0, c1].drop 0).take (Tryz.prog.cellsOf 3) = [.int .i64 n0] := e0
    have e1' : ([c0, c1].drop 1).take (Tryz.prog.cellsOf 9) = [.string n1] := e1
    rw [k0] at e0'
    rw [k1] at e1'
    have f0 : c0 = .int .i64 n0 := by simpa using e0'
    have f1 : c1 = .string n1 := by simpa using e1'
    refine ⟨⟨n0, n1⟩, ?_, wf_i64 w0, w1⟩
    dsimp only
    rw [f0, f1]

set_option maxRecDepth 100000 in
theorem rp_of_tx {fuel : Nat} {cs : List Value} {y : DataW H × List MemPlace} (h : DataW.trod enc Tryz.prog w 0 spare held fuel 35 cs = some y) : ∃ x, TxAt w (.agg cs.toArray) x := by
  obtain ⟨xs, n, _, _, hl, hlen, hf⟩ := DataW.trod_struct Tryz.underlying35 h
  have hc : Tryz.prog.cellsOf 35 = 4 := by kernel_rfl
  rw [hc] at hl
  match cs, hl with
  | [c0, c1, c2, c3], _ =>
    have hlen' : xs.length = 4 := hlen
    have g0 := hf 0 _ rfl
    have g1 := hf 1 _ rfl
    have g2 := hf 2 _ rfl
    have g3 := hf 3 _ rfl
    rw [List.getElem?_eq_getElem (by omega)] at g0 g1 g2 g3
    obtain ⟨n0, e0, w0⟩ := rp_of_int Tryz.underlying25 g0
    obtain ⟨is, v1, e1, w1⟩ := rp_of_slice (R := rpIn) Tryz.underlying33 (by kernel_rfl) (by decide) (fun _ _ _ => rp_of_in) g1
    obtain ⟨os, v2, e2, w2⟩ := rp_of_slice (R := rpOut) Tryz.underlying24 (by kernel_rfl) (by decide) (fun _ _ _ => rp_of_out) g2
    obtain ⟨n3, e3, w3⟩ := rp_of_int Tryz.underlying25 g3
    have k0 : Tryz.prog.cellsOf 25 = 1 := by kernel_rfl
    have k1 : Tryz.prog.cellsOf 33 = 1 := by kernel_rfl
    have k2 : Tryz.prog.cellsOf 24 = 1 := by kernel_rfl
    have e0' : ([c0, c1, c2, c3].drop 0).take (Tryz.prog.cellsOf 25) = [.int .u32 n0] := e0
    have e1' : ([c0, c1, c2, c3].drop 1).take (Tryz.prog.cellsOf 33) = [v1] := e1
    have e2' : ([c0, c1, c2, c3].drop 2).take (Tryz.prog.cellsOf 24) = [v2] := e2
    have e3' : ([c0, c1, c2, c3].drop 3).take (Tryz.prog.cellsOf 25) = [.int .u32 n3] := e3
    rw [k0] at e0' e3'
    rw [k1] at e1'
    rw [k2] at e2'
    have f0 : c0 = .int .u32 n0 := by simpa using e0'
    have f1 : c1 = v1 := by simpa using e1'
    have f2 : c2 = v2 := by simpa using e2'
    have f3 : c3 = .int .u32 n3 := by simpa using e3'
    have b0 : 0 ≤ n0 ∧ n0 ≤ 4294967295 := wf_u32 w0
    have b3 : 0 ≤ n3 ∧ n3 ≤ 4294967295 := wf_u32 w3
    refine ⟨⟨n0.toNat, is, os, n3.toNat⟩, v1, v2, ?_, w1, w2, by dsimp only; omega, by dsimp only; omega⟩
    dsimp only
    rw [f0, f1, f2, f3, show ((n0.toNat : Nat) : Int) = n0 by omega, show ((n3.toNat : Nat) : Int) = n3 by omega]
end

set_option maxRecDepth 100000 in
theorem open_tx {H : Type} {enc : TypeId × Value → H} {w : World} {v : Value} {d : DataW H} {ps : List MemPlace} (hv : Value.okWide Tryz.prog w .any 0 35 v) (h : DataW.Trod enc Tryz.prog w 0 (fun _ => true) true 35 v d ps) :
    ∃ t : PTx, TxAt w v t := by
  obtain ⟨cs, rfl, -⟩ := Go.WideShapes.okWide_struct Tryz.underlying35 hv
  obtain ⟨fuel, hf⟩ := h
  obtain ⟨x, hx⟩ := rp_of_tx hf
  exact ⟨x, by simpa [Value.cells] using hx⟩

end Go.Proofs.YtelindgnkpfkiaaGreatDoor
end

section
/-
  Transactions in memory of a call's own: rows that nobody else has, each In's witness in a row of its own. Conditions: none beyond each lemma's own.
-/
namespace Go.Proofs.YtelindgnkpfkiaaGreatDoor
open Go.RowKit
set_option linter.unusedVariables false
set_option linter.unusedSimpArgs false

/-! ### rows of cells of one size -/
theorem flat_len {α β : Type} (f : α → List β) (k : Nat) (hf : ∀ a, (f a).length = k) (l : List α) : (l.flatMap f).length = l.length * k := by
  induction l with
  | nil => simp
  | cons a l ih => rw [List.flatMap_cons, List.length_append, hf, ih, List.length_cons, Nat.add_mul]; omega
theorem flat_at {α β : Type} (f : α → List β) (k : Nat) (hf : ∀ a, (f a).length = k) : ∀ (l : List α) (i : Nat) (a : α), l[i]? = some a → ∀ j, j < k → (l.flatMap f)[i * k + j]? = (f a)[j]?
  | [], i, a, h, j, hj => by simp at h
  | b :: l, 0, a, h, j, hj => by
    obtain rfl : b = a := by simpa using h
    rw [List.flatMap_cons, List.getElem?_append_left (by rw [hf]; omega)]
    simp
  | b :: l, i + 1, a, h, j, hj => by
    rw [List.flatMap_cons, List.getElem?_append_right (by rw [hf, Nat.add_mul]; omega)]
    rw [hf, show (i + 1) * k + j - k = i * k + j by rw [Nat.add_mul]; omega]
    exact flat_at f k hf l i a (by simpa using h) j hj
theorem flat_set {α β : Type} (f : α → List β) (k : Nat) (hf : ∀ a, (f a).length = k) : ∀ (l : List α) (i : Nat) (a a' : α), l[i]? = some a → ∀ (j : Nat) (u : β), j < k → (f a).set j u = f a' → (l.flatMap f).set (i * k + j) u = (l.set i a').flatMap f
  | [], i, a, a', h, j, u, hj, hs => by simp at h
  | b :: l, 0, a, a', h, j, u, hj, hs => by
    obtain rfl : b = a := by simpa using h
    rw [List.flatMap_cons, List.set_append_left _ _ (by rw [hf]; omega)]
    simp [hs]
  | b :: l, i + 1, a, a', h, j, u, hj, hs => by
    rw [List.flatMap_cons, List.set_append_right _ _ (by rw [hf, Nat.add_mul]; omega)]
    rw [hf, show (i + 1) * k + j - k = i * k + j by rw [Nat.add_mul]; omega]
    rw [flat_set f k hf l i a a' (by simpa using h) j u hj hs]
    simp

/-! ### texts -/
def strCells (l : List ByteArray) : List Value := l.map .string
theorem strCells_len (l : List ByteArray) : (strCells l).length = l.length := by simp [strCells]

def okStrs (l : List ByteArray) : Prop := ∀ s ∈ l, s.size ≤ maxLen
theorem SlAt.of_strs {w : World} {base n : Nat} {v : Value} {l : List ByteArray} (h : w.ownsRow base 9 1 v n (strCells l)) (hn : n = l.length) (ho : okStrs l) : SlAt rpStr w v l := by
  subst hn
  obtain ⟨a, c, rfl, h1, h2⟩ := ownsRow_shape h
  refine ⟨a, c, rfl, h1, h2, fun i x hi => ?_⟩
  have hil : i < l.length := (List.getElem?_eq_some_iff.1 hi).1
  obtain ⟨b, rfl, hb, hb2⟩ := ownsRow_some h (by omega)
  refine ⟨b, 0, [.string x], rfl, rfl, fun j u hj => ?_, rfl, ho x (List.mem_of_getElem? hi)⟩
  obtain rfl : j = 0 := by have := (List.getElem?_eq_some_iff.1 hj).1; simp at this; omega
  have := h.cells (g := b) rfl i u (by simp at hj; simp [strCells, hi, hj])
  rw [Addr.add_lit] at this
  simpa [rpStr] using this

/-! ### Ins -/
def inRow (p : PIn × Value) : List Value := [.string p.1.id, .int .u32 p.1.idx, .int .u32 p.1.seq, p.2]
def insCells (ps : List (PIn × Value)) : List Value := ps.flatMap inRow
theorem inRow_len (p : PIn × Value) : (inRow p).length = 4 := rfl
theorem insCells_len (ps : List (PIn × Value)) : (insCells ps).length = ps.length * 4 := flat_len inRow 4 inRow_len ps

structure OkIn (x : PIn) : Prop where
  id : x.id.size ≤ maxLen
  idx : x.idx < 4294967296
  seq : x.seq < 4294967296
  wit : okStrs x.wit

/-- Ins with their witnesses' values, all in rows from a base on. -/
structure InsOwn (base : Nat) (w : World) (v : Value) (ps : List (PIn × Value)) : Prop where
  row : w.ownsRow base 56 4 v ps.length (insCells ps)
  wit : ∀ (i : Nat) (p : PIn × Value), ps[i]? = some p → w.ownsRow base 9 1 p.2 p.1.wit.length (strCells p.1.wit)
  ok : ∀ (i : Nat) (p : PIn × Value), ps[i]? = some p → OkIn p.1
  out : ∀ (i : Nat) (p : PIn × Value) (b : Nat), ps[i]? = some p → p.2.ownBlock = some b → v.ownBlock ≠ some b
  apart : ∀ (i j : Nat) (p q : PIn × Value) (b : Nat), ps[i]? = some p → ps[j]? = some q → i ≠ j → p.2.ownBlock = some b → q.2.ownBlock ≠ some b

/-- Is the block one of theirs? -/
def InsHas (v : Value) (ps : List (PIn × Value)) (b : Nat) : Prop := v.ownBlock = some b ∨ ∃ (i : Nat) (p : PIn × Value), ps[i]? = some p ∧ p.2.ownBlock = some b
theorem InsOwn.lt {base : Nat} {w : World} {v : Value} {ps : List (PIn × Value)} (h : InsOwn base w v ps) {b : Nat} (hb : InsHas v ps b) : base ≤ b ∧ b < w.heap.size := by
  rcases hb with hb | ⟨i, p, hp, hb⟩
  · exact h.row.lt b hb
  · exact (h.wit i p hp).lt b hb
theorem InsOwn.kept {base : Nat} {w w' : World} {v : Value} {ps : List (PIn × Value)} (h : InsOwn base w v ps) (hk : ∀ b, InsHas v ps b → w'.heap[b]? = w.heap[b]?) : InsOwn base w' v ps :=
  ⟨ownsRow_of_block h.row fun k e => hk k (Or.inl e), fun i p hp => ownsRow_of_block (h.wit i p hp) fun k e => hk k (Or.inr ⟨i, p, hp, e⟩), h.ok, h.out, h.apart⟩
theorem InsOwn.below {base : Nat} {w w' : World} {v : Value} {ps : List (PIn × Value)} (h : InsOwn base w v ps) (hb : Below w.heap.size w w') : InsOwn base w' v ps :=
  h.kept fun b hh => hb.block b (h.lt hh).2
theorem InsOwn.store {base : Nat} {w : World} {v : Value} {ps : List (PIn × Value)} (h : InsOwn base w v ps) (p : Addr) (u : Value) (hn : ¬ InsHas v ps p.block) : InsOwn base (w.setCell p u) v ps :=
  h.kept fun b hh => Below.heap_setCell _ _ _ _ (fun e => hn (e ▸ hh))
theorem InsOwn.base {base base' : Nat} {w : World} {v : Value} {ps : List (PIn × Value)} (h : InsOwn base w v ps) (hb : base' ≤ base) : InsOwn base' w v ps :=
  ⟨ownsRow_base h.row hb, fun i p hp => ownsRow_base (h.wit i p hp) hb, h.ok, h.out, h.apart⟩
theorem insOwn_nil (base : Nat) (w : World) : InsOwn base w (.slice none 0 0) [] :=
  ⟨World.ownsRow_nil _ _ _ _, fun i p h => by simp at h, fun i p h => by simp at h, fun i p b h => by simp at h, fun i j p q b h => by simp at h⟩

/-- One In more. -/
theorem InsOwn.snoc {base : Nat} {w w' : World} {v v' : Value} {ps : List (PIn × Value)} {x : PIn} {wv : Value} (h : InsOwn base w v ps)
    (hrow : w'.ownsRow base 56 4 v' (ps.length + 1) (insCells ps ++ inRow (x, wv)))
    (hv : v'.ownBlock = v.ownBlock ∨ ∃ B, v'.ownBlock = some B ∧ w.heap.size ≤ B ∧ wv.ownBlock ≠ some B)
    (hk : ∀ b, b < w.heap.size → v.ownBlock ≠ some b → w'.heap[b]? = w.heap[b]?)
    (hw : w'.ownsRow base 9 1 wv x.wit.length (strCells x.wit)) (hox : OkIn x) (hnew : ∀ b, wv.ownBlock = some b → ¬ InsHas v ps b) : InsOwn base w' v' (ps ++ [(x, wv)]) := by
  have hvn : ∀ (i : Nat) (p : PIn × Value) (b : Nat), ps[i]? = some p → p.2.ownBlock = some b → v'.ownBlock ≠ some b := by
    intro i p b hp hb e
    rcases hv with hv | ⟨B, hB, hle, -⟩
    · exact h.out i p b hp hb (hv ▸ e)
    · obtain rfl : B = b := by rw [hB] at e; exact Option.some.inj e
      have := (h.wit i p hp).lt B hb
      omega
  have split : ∀ (i : Nat) (p : PIn × Value), (ps ++ [(x, wv)])[i]? = some p → (i < ps.length ∧ ps[i]? = some p) ∨ (i = ps.length ∧ p = (x, wv)) := by
    intro i p hp
    rcases Nat.lt_or_ge i ps.length with hi | hi
    · rw [List.getElem?_append_left hi] at hp; exact .inl ⟨hi, hp⟩
    · rw [List.getElem?_append_right hi] at hp
      have h0 : i - ps.length = 0 := by have := (List.getElem?_eq_some_iff.1 hp).1; simp at this; omega
      rw [h0] at hp
      exact .inr ⟨by omega, by simpa using hp.symm⟩
  refine ⟨?_, ?_, ?_, ?_, ?_⟩
  · rw [List.length_append]
    have : insCells (ps ++ [(x, wv)]) = insCells ps ++ inRow (x, wv) := by simp [insCells]
    rw [this]; exact hrow
  · intro i p hp
    rcases split i p hp with ⟨hi, hp⟩ | ⟨hi, rfl⟩
    · exact ownsRow_of_block (h.wit i p hp) fun k e => hk k ((h.wit i p hp).lt k e).2 (h.out i p k hp e)
    · exact hw
  · intro i p hp
    rcases split i p hp with ⟨hi, hp⟩ | ⟨hi, rfl⟩
    · exact h.ok i p hp
    · exact hox
  · intro i p b hp hb
    rcases split i p hp with ⟨hi, hp⟩ | ⟨hi, rfl⟩
    · exact hvn i p b hp hb
    · intro e
      rcases hv with hv | ⟨B, hB, hle, hne⟩
      · exact hnew b hb (Or.inl (hv ▸ e))
      · obtain rfl : B = b := by rw [hB] at e; exact Option.some.inj e
        exact hne hb
  · intro i j p q b hp hq hij hb e
    rcases split i p hp with ⟨hi, hp⟩ | ⟨hi, rfl⟩ <;> rcases split j q hq with ⟨hj, hq⟩ | ⟨hj, rfl⟩
    · exact h.apart i j p q b hp hq hij hb e
    · exact hnew b e (Or.inr ⟨i, p, hp, hb⟩)
    · exact hnew b hb (Or.inr ⟨j, q, hq, e⟩)
    · omega

/-- The cells of an In. -/
theorem InsOwn.at {base : Nat} {w : World} {a : Option Addr} {n c : Nat} {ps : List (PIn × Value)} (h : InsOwn base w (.slice a n c) ps) {i : Nat} {p : PIn × Value} (hi : ps[i]? = some p) :
    ∃ b, a = some ⟨b, 0, none⟩ ∧ base ≤ b ∧ b < w.heap.size ∧ w.cell? ⟨b, i * 4, none⟩ = some (.string p.1.id) ∧ w.cell? ⟨b, i * 4 + 1, none⟩ = some (.int .u32 p.1.idx) ∧ w.cell? ⟨b, i * 4 + 2, none⟩ = some (.int .u32 p.1.seq) ∧ w.cell? ⟨b, i * 4 + 3, none⟩ = some p.2 := by
  obtain ⟨a', c', e, -, -⟩ := ownsRow_shape h.row
  obtain ⟨rfl, rfl, rfl⟩ : a = a' ∧ n = ps.length ∧ c = c' := by simpa using e
  obtain ⟨b, rfl, h1, h2⟩ := ownsRow_some h.row (by have := (List.getElem?_eq_some_iff.1 hi).1; omega)
  refine ⟨b, rfl, h1, h2, ?_, ?_, ?_, ?_⟩
  · have := h.row.cells (g := b) rfl (i * 4 + 0) _ (flat_at inRow 4 inRow_len ps i p hi 0 (by omega))
    simpa [Addr.add_lit] using this
  · have := h.row.cells (g := b) rfl (i * 4 + 1) _ (flat_at inRow 4 inRow_len ps i p hi 1 (by omega))
    simpa [Addr.add_lit] using this
  · have := h.row.cells (g := b) rfl (i * 4 + 2) _ (flat_at inRow 4 inRow_len ps i p hi 2 (by omega))
    simpa [Addr.add_lit] using this
  · have := h.row.cells (g := b) rfl (i * 4 + 3) _ (flat_at inRow 4 inRow_len ps i p hi 3 (by omega))
    simpa [Addr.add_lit] using this

/-- As data. -/
theorem InsOwn.sl {base : Nat} {w : World} {v : Value} {ps : List (PIn × Value)} (h : InsOwn base w v ps) : SlAt rpIn w v (ps.map (·.1)) := by
  obtain ⟨a, c, rfl, h1, h2⟩ := ownsRow_shape h.row
  refine ⟨a, c, by simp, by simpa using h1, h2, fun i x hi => ?_⟩
  rw [List.getElem?_map] at hi
  obtain ⟨p, hp, rfl⟩ := Option.map_eq_some_iff.1 hi
  obtain ⟨b, rfl, hb, -, e0, e1, e2, e3⟩ := h.at hp
  refine ⟨b, 0, [.string p.1.id, .int .u32 p.1.idx, .int .u32 p.1.seq, p.2], rfl, rfl, fun j u hj => ?_, p.2, rfl, (SlAt.of_strs (h.wit i p hp) rfl (h.ok i p hp).wit), (h.ok i p hp).id, (h.ok i p hp).idx, (h.ok i p hp).seq⟩
  rw [show 0 + i * rpIn.size + j = i * 4 + j by simp [rpIn]]
  match j, hj with
  | 0, hj => simp at hj; subst hj; exact e0
  | 1, hj => simp at hj; subst hj; exact e1
  | 2, hj => simp at hj; subst hj; exact e2
  | 3, hj => simp at hj; subst hj; exact e3

/-- One of an In's own cells is written: not its witness's elements. -/
theorem InsOwn.set {base : Nat} {w : World} {b n c : Nat} {ps : List (PIn × Value)} (h : InsOwn base w (.slice (some ⟨b, 0, none⟩) n c) ps) {i : Nat} {p p' : PIn × Value} (hi : ps[i]? = some p) (j : Nat) (u : Value) (hj : j < 4) (hs : (inRow p).set j u = inRow p')
    (hw : w.ownsRow base 9 1 p'.2 p'.1.wit.length (strCells p'.1.wit)) (hok : OkIn p'.1) (hb : p'.2.ownBlock = p.2.ownBlock ∨ p'.2.ownBlock = none ∨ ∃ B, p'.2.ownBlock = some B ∧ ¬ InsHas (.slice (some ⟨b, 0, none⟩) n c) ps B) :
    InsOwn base (w.setCell ⟨b, i * 4 + j, none⟩ u) (.slice (some ⟨b, 0, none⟩) n c) (ps.set i p') := by
  obtain ⟨a', c', e, -, -⟩ := ownsRow_shape h.row
  obtain ⟨-, rfl, rfl⟩ : some (⟨b, 0, none⟩ : Addr) = a' ∧ n = ps.length ∧ c = c' := by simpa using e
  have hil : i < ps.length := (List.getElem?_eq_some_iff.1 hi).1
  have split : ∀ (k : Nat) (q : PIn × Value), (ps.set i p')[k]? = some q → (k ≠ i ∧ ps[k]? = some q) ∨ (k = i ∧ q = p') := by
    intro k q hq
    by_cases hk : k = i
    · subst hk; rw [List.getElem?_set_self hil] at hq; exact .inr ⟨rfl, by simpa using hq.symm⟩
    · rw [List.getElem?_set_ne (Ne.symm hk)] at hq; exact .inl ⟨hk, hq⟩
  have hbn : ∀ B, p'.2.ownBlock = some B → B ≠ b ∧ ∀ k q, k ≠ i → ps[k]? = some q → q.2.ownBlock ≠ some B := by
    intro B hB
    rcases hb with hb | hb | ⟨B', hB', hn⟩
    · rw [hb] at hB
      exact ⟨fun e => h.out i p B hi hB (by rw [e]; rfl), fun k q hk hq => fun e => h.apart i k p q B hi hq (Ne.symm hk) hB e⟩
    · rw [hb] at hB; cases hB
    · obtain rfl : B' = B := by rw [hB'] at hB; exact Option.some.inj hB
      exact ⟨fun e => hn (Or.inl (by rw [e]; rfl)), fun k q hk hq e => hn (Or.inr ⟨k, q, hq, e⟩)⟩
  refine ⟨?_, ?_, ?_, ?_, ?_⟩
  · rw [List.length_set]
    have hx : insCells (ps.set i p') = (insCells ps).set (i * 4 + j) u := (flat_set inRow 4 inRow_len ps i p p' hi j u hj hs).symm
    rw [hx]
    exact ownsRow_set h.row (by rw [insCells_len]; omega) u
  · intro k q hq
    rcases split k q hq with ⟨hk, hq⟩ | ⟨rfl, rfl⟩
    · exact ownsRow_other (h.wit k q hq) _ _ (fun e => h.out k q b hq e rfl)
    · exact ownsRow_other hw _ _ (fun e => (hbn b e).1 rfl)
  · intro k q hq
    rcases split k q hq with ⟨hk, hq⟩ | ⟨rfl, rfl⟩
    · exact h.ok k q hq
    · exact hok
  · intro k q B hq hB
    rcases split k q hq with ⟨hk, hq⟩ | ⟨rfl, rfl⟩
    · exact h.out k q B hq hB
    · intro e
      exact (hbn B hB).1 (by simpa [Value.ownBlock] using e.symm)
  · intro k l q r B hq hr hkl hB
    rcases split k q hq with ⟨hk, hq'⟩ | ⟨hk, hq'⟩ <;> rcases split l r hr with ⟨hl, hr'⟩ | ⟨hl, hr'⟩
    · exact h.apart k l q r B hq' hr' hkl hB
    · subst hr'
      exact fun e => (hbn B e).2 k q hk hq' hB
    · subst hq'
      exact (hbn B hB).2 l r hl hr'
    · omega

/-- One element of an In's witness is written. -/
theorem InsOwn.setStr {base : Nat} {w : World} {v : Value} {ps : List (PIn × Value)} (h : InsOwn base w v ps) {i : Nat} {x : PIn} {B l c : Nat} (hi : ps[i]? = some (x, .slice (some ⟨B, 0, none⟩) l c)) {k : Nat} (hk : k < x.wit.length) (s : ByteArray) (hs : s.size ≤ maxLen) :
    InsOwn base (w.setCell ⟨B, k, none⟩ (.string s)) v (ps.set i ({ x with wit := x.wit.set k s }, .slice (some ⟨B, 0, none⟩) l c)) := by
  have hil : i < ps.length := (List.getElem?_eq_some_iff.1 hi).1
  have split : ∀ (k' : Nat) (q : PIn × Value), (ps.set i ({ x with wit := x.wit.set k s }, .slice (some ⟨B, 0, none⟩) l c))[k']? = some q → (k' ≠ i ∧ ps[k']? = some q) ∨ (k' = i ∧ q = ({ x with wit := x.wit.set k s }, .slice (some ⟨B, 0, none⟩) l c)) := by
    intro k' q hq
    by_cases hk : k' = i
    · subst hk; rw [List.getElem?_set_self hil] at hq; exact .inr ⟨rfl, by simpa using hq.symm⟩
    · rw [List.getElem?_set_ne (Ne.symm hk)] at hq; exact .inl ⟨hk, hq⟩
  have hwi := h.wit i _ hi
  obtain ⟨a', c', e, -, -⟩ := ownsRow_shape hwi
  obtain ⟨-, hl, rfl⟩ : some (⟨B, 0, none⟩ : Addr) = a' ∧ l = x.wit.length ∧ c = c' := by simpa using e
  refine ⟨?_, ?_, ?_, ?_, ?_⟩
  · rw [List.length_set]
    have hx : insCells (ps.set i ({ x with wit := x.wit.set k s }, .slice (some ⟨B, 0, none⟩) l c)) = insCells ps := by
      have h2 := flat_set inRow 4 inRow_len ps i _ ({ x with wit := x.wit.set k s }, .slice (some ⟨B, 0, none⟩) l c) hi 1 (.int .u32 x.idx) (by omega) rfl
      have h3 : (ps.flatMap inRow).set (i * 4 + 1) (.int .u32 x.idx) = ps.flatMap inRow := by
        have h4 := flat_at inRow 4 inRow_len ps i _ hi 1 (by omega)
        obtain ⟨h5, h6⟩ := List.getElem?_eq_some_iff.1 h4
        conv => lhs; rw [← show (ps.flatMap inRow)[i * 4 + 1]'h5 = .int .u32 x.idx from h6]
        exact List.set_getElem_self h5
      unfold insCells
      rw [← h2, h3]
    rw [hx]
    exact ownsRow_other h.row _ _ (fun e => h.out i _ B hi rfl e)
  · intro k' q hq
    rcases split k' q hq with ⟨hk', hq⟩ | ⟨rfl, rfl⟩
    · exact ownsRow_other (h.wit k' q hq) _ _ (fun e => h.apart k' i q _ B hq hi hk' e rfl)
    · dsimp only at *
      rw [hl] at hwi ⊢
      rw [List.length_set]
      have hx : strCells (x.wit.set k s) = (strCells x.wit).set k (.string s) := by simp [strCells, List.map_set]
      rw [hx]
      exact ownsRow_set hwi (by rw [strCells_len]; exact hk) _
  · intro k' q hq
    rcases split k' q hq with ⟨hk', hq⟩ | ⟨rfl, rfl⟩
    · exact h.ok k' q hq
    · have := h.ok k' _ hi
      refine ⟨this.id, this.idx, this.seq, fun s' hs' => ?_⟩
      rcases List.mem_or_eq_of_mem_set hs' with h1 | rfl
      · exact this.wit s' h1
      · exact hs
  · intro k' q b hq hb
    rcases split k' q hq with ⟨hk', hq⟩ | ⟨rfl, rfl⟩
    · exact h.out k' q b hq hb
    · exact h.out k' _ b hi hb
  · intro k' l' q r b hq hr hkl hb
    rcases split k' q hq with ⟨hk', hq'⟩ | ⟨hk', hq'⟩ <;> rcases split l' r hr with ⟨hl', hr'⟩ | ⟨hl', hr'⟩
    · exact h.apart k' l' q r b hq' hr' hkl hb
    · subst hr'
      subst hl'
      exact fun e => h.apart k' l' q (x, .slice (some ⟨B, 0, none⟩) l c) b hq' hi hkl hb e
    · subst hq'
      subst hk'
      exact h.apart k' l' (x, .slice (some ⟨B, 0, none⟩) l c) r b hi hr' hkl hb
    · omega

section
variable {P : Program}
/-- 'append(s, x)' of one element, and where the row then lies. -/
theorem append_one {w : World} {base t ty e size bytes n : Nat} {i : TypeInfo} {z v : Value} {xs : List Value} (ht : P.underlying t = some (.slice e)) (hi : P.info? e = some i) (hz : i.zero = some z)
    (hsize : i.size = size) (hby : i.bytes = bytes) (hzs : z.cells.size = size) (hown : w.ownsRow base e size v n xs) (cs : Array Value) (hcs : cs.size = size) (h1 : ∀ u ∈ cs.toList, u.oneCell' = true)
    (hn : n + 1 ≤ maxLen) (hb : (n + 1) * bytes ≤ 140737488355328) (hbase : base ≤ w.heap.size) :
    ∃ a' c' w', (Builtin.append_ #[t, t] ty #[v, .slice (some ⟨w.heap.size, 0, none⟩) 1 1]).run P (w.alloc (.cells cs e)) = .ok (.slice a' (n + 1) c') w' ∧
      w'.ownsRow base e size (.slice a' (n + 1) c') (n + 1) (xs ++ cs.toList) ∧ Below base w w' ∧ (w.alloc (.cells cs e)).grownBy w' v.ownBlock ∧
      ((Value.slice a' (n + 1) c').ownBlock = v.ownBlock ∨ (Value.slice a' (n + 1) c').ownBlock = some (w.heap.size + 1)) := by
  obtain ⟨v', w', hr, ho, hg, hv⟩ := append_own_src (P := P) (w.alloc (.cells cs e)) base t t ty e i z size bytes ht hi hz hsize hby hzs v n xs (hown.alloc _) (.slice (some ⟨w.heap.size, 0, none⟩) 1 1) 1 cs.toList
    (Src.ofSlice _ ht ⟨w.heap.size, 0, none⟩ 1 1 cs.toList (by simp [hcs]) (fun j u hj => by
      rw [Addr.add_lit, Nat.zero_add, cell_at (heap_alloc_new w (.cells cs e))]
      simpa using hj) h1) hn hb (by simp; omega)
  obtain ⟨a', c', rfl, _, _⟩ := ownsRow_shape ho
  exact ⟨a', c', w', hr, ho, ((Below.refl base w).alloc hbase _).grown hg (by simp; omega) (fun k hk => (hown.lt k hk).1), hg, by simpa using hv⟩
end

/-! ### Outs -/
def outRow (x : POut) : List Value := [.int .i64 x.val, .string x.script]
def outsCells (l : List POut) : List Value := l.flatMap outRow
theorem outRow_len (x : POut) : (outRow x).length = 2 := rfl
theorem outsCells_len (l : List POut) : (outsCells l).length = l.length * 2 := flat_len outRow 2 outRow_len l
def OkOut (x : POut) : Prop := (-9223372036854775808 ≤ x.val ∧ x.val ≤ 9223372036854775807) ∧ x.script.size ≤ maxLen
structure OutsOwn (base : Nat) (w : World) (v : Value) (l : List POut) : Prop where
  row : w.ownsRow base 48 2 v l.length (outsCells l)
  ok : ∀ x ∈ l, OkOut x
theorem OutsOwn.at {base : Nat} {w : World} {a : Option Addr} {n c : Nat} {l : List POut} (h : OutsOwn base w (.slice a n c) l) {i : Nat} {x : POut} (hi : l[i]? = some x) :
    ∃ b, a = some ⟨b, 0, none⟩ ∧ base ≤ b ∧ b < w.heap.size ∧ w.cell? ⟨b, i * 2, none⟩ = some (.int .i64 x.val) ∧ w.cell? ⟨b, i * 2 + 1, none⟩ = some (.string x.script) := by
  obtain ⟨a', c', e, -, -⟩ := ownsRow_shape h.row
  obtain ⟨rfl, rfl, rfl⟩ : a = a' ∧ n = l.length ∧ c = c' := by simpa using e
  obtain ⟨b, rfl, h1, h2⟩ := ownsRow_some h.row (by have := (List.getElem?_eq_some_iff.1 hi).1; omega)
  refine ⟨b, rfl, h1, h2, ?_, ?_⟩
  · have := h.row.cells (g := b) rfl (i * 2 + 0) _ (flat_at outRow 2 outRow_len l i x hi 0 (by omega))
    simpa [Addr.add_lit] using this
  · have := h.row.cells (g := b) rfl (i * 2 + 1) _ (flat_at outRow 2 outRow_len l i x hi 1 (by omega))
    simpa [Addr.add_lit] using this
theorem OutsOwn.sl {base : Nat} {w : World} {v : Value} {l : List POut} (h : OutsOwn base w v l) : SlAt rpOut w v l := by
  obtain ⟨a, c, rfl, h1, h2⟩ := ownsRow_shape h.row
  refine ⟨a, c, rfl, h1, h2, fun i x hi => ?_⟩
  obtain ⟨b, rfl, hb, -, e0, e1⟩ := h.at hi
  refine ⟨b, 0, [.int .i64 x.val, .string x.script], rfl, rfl, fun j u hj => ?_, rfl, (h.ok x (List.mem_of_getElem? hi)).1, (h.ok x (List.mem_of_getElem? hi)).2⟩
  rw [show 0 + i * rpOut.size + j = i * 2 + j by simp [rpOut]]
  match j, hj with
  | 0, hj => simp at hj; subst hj; exact e0
  | 1, hj => simp at hj; subst hj; exact e1
theorem OutsOwn.kept {base : Nat} {w w' : World} {v : Value} {l : List POut} (h : OutsOwn base w v l) (hk : ∀ b, v.ownBlock = some b → w'.heap[b]? = w.heap[b]?) : OutsOwn base w' v l := ⟨ownsRow_of_block h.row hk, h.ok⟩
theorem OutsOwn.below {base : Nat} {w w' : World} {v : Value} {l : List POut} (h : OutsOwn base w v l) (hb : Below w.heap.size w w') : OutsOwn base w' v l := h.kept fun b hh => hb.block b (h.row.lt b hh).2
theorem OutsOwn.base {base base' : Nat} {w : World} {v : Value} {l : List POut} (h : OutsOwn base w v l) (hb : base' ≤ base) : OutsOwn base' w v l := ⟨ownsRow_base h.row hb, h.ok⟩
theorem outsOwn_nil (base : Nat) (w : World) : OutsOwn base w (.slice none 0 0) [] := ⟨World.ownsRow_nil _ _ _ _, fun i h => by simp at h⟩
theorem OutsOwn.set {base : Nat} {w : World} {b n c : Nat} {l : List POut} (h : OutsOwn base w (.slice (some ⟨b, 0, none⟩) n c) l) {i : Nat} {x x' : POut} (hi : l[i]? = some x) (j : Nat) (u : Value) (hj : j < 2) (hs : (outRow x).set j u = outRow x') (hok : OkOut x') :
    OutsOwn base (w.setCell ⟨b, i * 2 + j, none⟩ u) (.slice (some ⟨b, 0, none⟩) n c) (l.set i x') := by
  obtain ⟨a', c', e, -, -⟩ := ownsRow_shape h.row
  obtain ⟨-, rfl, rfl⟩ : some (⟨b, 0, none⟩ : Addr) = a' ∧ n = l.length ∧ c = c' := by simpa using e
  have hil : i < l.length := (List.getElem?_eq_some_iff.1 hi).1
  refine ⟨?_, fun y hy => ?_⟩
  · rw [List.length_set]
    have hx : outsCells (l.set i x') = (outsCells l).set (i * 2 + j) u := (flat_set outRow 2 outRow_len l i x x' hi j u hj hs).symm
    rw [hx]
    exact ownsRow_set h.row (by rw [outsCells_len]; omega) u
  · rcases List.mem_or_eq_of_mem_set hy with h1 | rfl
    · exact h.ok y h1
    · exact hok

/-- A whole transaction. -/
structure TxOwn (base : Nat) (w : World) (v : Value) (t : PTx) : Prop where
  is : ∃ vi vo ps, v = .agg #[.int .u32 t.ver, vi, vo, .int .u32 t.lock] ∧ t.ins = ps.map (·.1) ∧ InsOwn base w vi ps ∧ OutsOwn base w vo t.outs ∧ (∀ b, vo.ownBlock = some b → ¬ InsHas vi ps b)
  ver : t.ver < 4294967296
  lock : t.lock < 4294967296
theorem TxOwn.tx {base : Nat} {w : World} {v : Value} {t : PTx} (h : TxOwn base w v t) : TxAt w v t := by
  obtain ⟨⟨vi, vo, ps, rfl, hp, h1, h2, h3⟩, h4, h5⟩ := h
  exact ⟨vi, vo, rfl, hp ▸ h1.sl, h2.sl, h4, h5⟩
theorem TxOwn.below {base : Nat} {w w' : World} {v : Value} {t : PTx} (h : TxOwn base w v t) (hb : Below w.heap.size w w') : TxOwn base w' v t := by
  obtain ⟨⟨vi, vo, ps, rfl, hp, h1, h2, h3⟩, h4, h5⟩ := h
  exact ⟨⟨vi, vo, ps, rfl, hp, h1.below hb, h2.below hb, h3⟩, h4, h5⟩
theorem TxOwn.base {base base' : Nat} {w : World} {v : Value} {t : PTx} (h : TxOwn base w v t) (hb : base' ≤ base) : TxOwn base' w v t := by
  obtain ⟨⟨vi, vo, ps, rfl, hp, h1, h2, h3⟩, h4, h5⟩ := h
  exact ⟨⟨vi, vo, ps, rfl, hp, h1.base hb, h2.base hb, h3⟩, h4, h5⟩
theorem SlAt.outp {w : World} {a : Option Addr} {n c i : Nat} {xs : List POut} (h : SlAt rpOut w (.slice a n c) xs) (hi : i < n) : ∃ (b o : Nat) (x : POut), a = some ⟨b, o, none⟩ ∧ xs[i]? = some x ∧ OkOut x ∧
    w.cell? ⟨b, o + i * 2, none⟩ = some (.int .i64 x.val) ∧ w.cell? ⟨b, o + i * 2 + 1, none⟩ = some (.string x.script) := by
  obtain ⟨b, o, x, cs, h1, h2, h3, h4, h5, h6, h7⟩ := h.at hi
  subst h5
  exact ⟨b, o, x, h1, h2, ⟨h6, h7⟩, h4 0 _ rfl, h4 1 _ rfl⟩

end Go.Proofs.YtelindgnkpfkiaaGreatDoor
end

section
/-
  Rows of bytes as strings. Conditions: none.
-/
namespace Go.Proofs.YtelindgnkpfkiaaGreatDoor
open Go.RowKit
set_option linter.unusedVariables false

/-- A row of bytes, as a string. -/
theorem convert_bytes {w : World} {base : Nat} {a : Option Addr} {c n : Nat} {xs : List UInt8} (ho : w.ownsRow base 5 1 (.slice a n c) n (bytesOf xs)) :
    (convert 106 9 (.slice a n c)).run Tryz.prog w = .ok (.string ⟨xs.toArray⟩) w := by
  have hl : xs.length = n := by have := ho.1; simpa [bytesOf] using this
  rcases ho.2 with ⟨h, h0⟩ | ⟨g, cap, cur, h, _, _, _, _, _, _⟩
  · obtain ⟨rfl, rfl, rfl⟩ : a = none ∧ n = 0 ∧ c = 0 := by simpa using h
    obtain rfl : xs = [] := List.eq_nil_of_length_eq_zero hl
    exact run_convert_bytes_nil w _ _ Tryz.underlying106 Tryz.underlying5 _ _ _ Tryz.underlying9
  · obtain ⟨rfl, rfl⟩ : a = some ⟨g, 0, none⟩ ∧ c = cap := by simpa using h
    have hc : ∀ i, i < n → w.cell? ⟨g, 0 + i, none⟩ = some (.int .u8 ((xs.map fun b => (b.toNat : Int)).getD i 0)) := by
      intro i hi
      have hi' : i < xs.length := by omega
      have h1 := ho.cells (g := g) rfl i (.int .u8 (xs[i].toNat)) (by simp [bytesOf, hi'])
      rw [Addr.add_lit] at h1
      rw [h1]
      simp [List.getD, hi']
    rw [run_convert_bytes_arg w _ _ Tryz.underlying106 Tryz.underlying5 g 0 n c (xs.map fun b => (b.toNat : Int)) (by simpa using hl) hc _ Tryz.underlying9]
    congr 2
    apply ByteArray.ext
    have hid : ((fun n : Int => UInt8.ofNat n.toNat) ∘ fun b : UInt8 => (b.toNat : Int)) = id := by funext b; simp
    simp [strOfNums, hid]


/-- One byte, of a number. -/
theorem convert_byte (w : World) (n : Int) (h : 0 ≤ n ∧ n < 256) : (convert 106 9 (.slice (some ⟨w.heap.size, 0, none⟩) 1 1)).run Tryz.prog (w.alloc (.cells #[.int .u8 n] 5)) =
    .ok (.string ⟨[UInt8.ofNat n.toNat].toArray⟩) (w.alloc (.cells #[.int .u8 n] 5)) := by
  have e : ((UInt8.ofNat n.toNat).toNat : Int) = n := by
    rw [UInt8.toNat_ofNat']
    have : n.toNat % 256 = n.toNat := Nat.mod_eq_of_lt (by omega)
    omega
  refine convert_bytes (base := 0) ⟨by simp [bytesOf], .inr ⟨w.heap.size, 1, _, rfl, Nat.zero_le _, heap_alloc_new w _, Nat.le_refl _, by decide, rfl, ?_⟩⟩
  show _ = bytesOf [UInt8.ofNat n.toNat]
  unfold bytesOf
  rw [List.map_cons, List.map_nil, e]
  rfl

section
variable {P : Program}
/-- A conversion whose run is known. -/
theorem wpList_convert_run {ops : Array Oper} {rest : List Oper} {o : Oper} {a : Act} {w w' : World} {v vx : Value} {Q : Exit → Act → World → Prop} (hg : o.guard = none) (x : Operand) (f t : TypeId)
    (ho : o.op = .convert f t x) (hx : a.eval x = vx) (hrun : (convert f t vx).run P w = .ok v w') (hK : wpList P ops Q rest (a.put o.dst v) w') : wpList P ops Q (o :: rest) a w :=
  wpList_run hg (by simp [execOp, ho, hx, hrun, Result.andThen]) hK
end
end Go.Proofs.YtelindgnkpfkiaaGreatDoor
end

section
/-
  A region that draws its order, whose operations but the last read or call quietly (each call may make memory), and whose last operation waits for all others: one walk in the order of the text serves every order. Conditions: those named in wp_region_last.
-/
namespace Go.Proofs.YtelindgnkpfkiaaGreatDoor
open Go.RowKit Go.BigFrame
set_option linter.unusedVariables false

/-- The last operation, struck out. -/
def struck (o : Oper) : Oper := { o with op := .move (.const undef), guard := none }
def headOps (ops : Array Oper) (n : Nat) (o : Oper) : Array Oper := ops.setIfInBounds n (struck o)

section
variable {P : Program} {ops : Array Oper} {md : Region.Mode} {n : Nat} {o : Oper}

theorem head_ne {i : Nat} (h : i ≠ n) : (headOps ops n o)[i]? = ops[i]? := by simp [headOps, Array.getElem?_setIfInBounds_ne (Ne.symm h)]
theorem head_at (ho : ops[n]? = some o) : (headOps ops n o)[n]? = some (struck o) := by
  have := (Array.getElem?_eq_some_iff.1 ho).1
  simp [headOps, this]
theorem head_ready (ho : ops[n]? = some o) (listed : Array Bool) : Region.ready md (headOps ops n o) listed = Region.ready md ops listed := by
  unfold Region.ready
  have hs : (headOps ops n o).size = ops.size := by simp [headOps]
  rw [hs]
  congr 1
  funext i
  by_cases h : i = n
  · subst h; rw [head_at ho, ho]; rfl
  · rw [head_ne h]
theorem head_yielded (ho : ops[n]? = some o) (tmps : Array Value) : yielded (headOps ops n o) tmps = yielded ops tmps := by
  funext j
  unfold yielded
  by_cases h : j = n
  · subst h; rw [head_at ho, ho]; rfl
  · rw [head_ne h]

/-- Every edge goes back. -/
def backB (md : Region.Mode) (ops : Array Oper) : Bool := (List.range ops.size).all fun i => match ops[i]? with | some o => o.after.all (fun e => !Region.binds md e || decide (e.on < i)) | none => true

theorem back_spec (h : backB md ops = true) {i : Nat} {x : Oper} (hx : ops[i]? = some x) : ∀ e ∈ x.after, Region.binds md e = true → e.on < i := by
  have h1 := List.all_eq_true.1 h i (List.mem_range.2 (Array.getElem?_eq_some_iff.1 hx).1)
  rw [hx] at h1
  dsimp only at h1
  rw [Array.all_eq_true_iff_forall_mem] at h1
  intro e he hb
  have h2 := h1 e he
  rw [hb] at h2
  simpa using h2

/-- Where something is not listed, something may come up. -/
theorem some_ready (h : backB md ops = true) (listed : Array Bool) (hsz : listed.size = ops.size) : ∀ i, i < ops.size → listed.getD i true = false → Region.ready md ops listed ≠ [] := by
  intro i
  induction i using Nat.strongRecOn with
  | _ i ih =>
    intro hi hun
    by_cases hr : i ∈ Region.ready md ops listed
    · intro he; rw [he] at hr; cases hr
    · rw [mem_ready] at hr
      obtain ⟨x, hx⟩ : ∃ x, ops[i]? = some x := ⟨_, Array.getElem?_eq_getElem hi⟩
      have hno : ¬ ∀ e ∈ x.after, Region.binds md e = true → listed.getD e.on false = true := fun hall => hr ⟨hun, x, hx, hall⟩
      have hex : ∃ e, e ∈ x.after ∧ Region.binds md e = true ∧ listed.getD e.on false ≠ true := Classical.byContradiction fun hn => hno fun e he hb => Classical.byContradiction fun hl => hn ⟨e, he, hb, hl⟩
      obtain ⟨e, he, hb, hl⟩ := hex
      have hlt := back_spec h hx e he hb
      exact ih e.on hlt (by omega) (getD_in (by omega) (by simpa using hl))

/-- What is asked of the last operation, behind all others. -/
def lastPost (P : Program) (o : Oper) (Q : Exit → Act → World → Prop) : Exit → Act → World → Prop
  | .normal, a, w => o.wp P a w (fun a' w' => Q .normal a' w') (fun _ _ _ => False)
  | _, _, _ => False

theorem wp_weaken {x : Oper} {a : Act} {w : World} {K K' : Act → World → Prop} {Q Q' : Exit → Act → World → Prop} (hK : ∀ a w, K a w → K' a w) (hQ : ∀ c a w, Q (.panic c) a w → Q' (.panic c) a w) (hl : LetsOut Q → LetsOut Q')
    (h : x.wp P a w K Q) : x.wp P a w K' Q' := by
  unfold Oper.wp at *
  generalize (execOp a.eval x).run P w = r at *
  cases r with
  | ok nx w' =>
    cases nx <;> simp only [Oper.upon] at h ⊢
    case value v => exact hK _ _ h
    case skip => exact hK _ _ h
    case defer d => exact hK _ _ h
    case enter f args =>
      refine h.mono fun e w'' he => ?_
      cases e with
      | returned v => exact hK _ _ he
      | panicked c => exact hQ _ _ _ he
      | outgrown => exact hl he
    case row r args => exact h.mono fun v w'' he => hK _ _ he
  | halt x w' =>
    cases x <;> simp only [Oper.upon] at h ⊢
    case panic v => exact hQ _ _ _ h

theorem put_put (a : Act) (d : Option Tmp) (u v : Value) : (a.put d u).put d v = a.put d v := by
  cases d with
  | none => rfl
  | some d => simp [Act.put]

theorem any_of_head (ho : ops[n]? = some o) (hsz : ops.size = n + 1) (hg : o.guard = none) (hdst : ∀ d, o.dst = some d → d ∉ o.looksAt ops) (hsel : ∀ cs b, o.op ≠ .select cs b)
    (hs : Region.sinkB md ops n = true) (hc : Region.chainB md ops n = true) (hb : backB md ops = true) {Q : Exit → Act → World → Prop} :
    ∀ (fuel : Nat) (listed : Array Bool) (a : Act) (w : World), HeadInv md ops n listed →
      wpAny P md (headOps ops n o) (lastPost P o Q) fuel listed a w → wpAny P md ops Q fuel listed a w := by
  intro fuel
  induction fuel with
  | zero =>
    intro listed a w inv h
    have h1 := h.1
    rw [head_ready ho] at h1
    exact absurd h1 (some_ready hb listed inv.size n (by omega) (inv.tail n (Nat.le_refl _) (by omega)))
  | succ fuel ih =>
    intro listed a w inv h
    refine ⟨fun h0 => absurd h0 (some_ready hb listed inv.size n (by omega) (inv.tail n (Nat.le_refl _) (by omega))), fun i hi => ?_⟩
    have h1 := h.2 i (by rw [head_ready ho]; exact hi)
    by_cases hin : i = n
    · subst hin
      -- all others are listed
      have hall : ∀ j, j < i → listed.getD j true = true := fun j hj => by
        cases hx : listed.getD j true with
        | true => rfl
        | false => exact absurd hi (tail_waits hs hc (by omega) inv _ j rfl hj hx i (Nat.le_refl _))
      have hdone : Region.ready md ops (listed.setIfInBounds i true) = [] := by
        rw [List.eq_nil_iff_forall_not_mem]
        intro j hj
        obtain ⟨h0, x, hx, _⟩ := mem_ready.1 hj
        have hjl := (Array.getElem?_eq_some_iff.1 hx).1
        by_cases hji : i = j
        · subst hji
          have : i < listed.size := by rw [inv.size]; omega
          simp [this] at h0
        · rw [getD_set_ne true hji] at h0
          have := hall j (by omega)
          rw [h0] at this
          cases this
      unfold wpOp at h1
      rw [head_at ho] at h1
      simp only [struck, Region.wanted, if_true] at h1
      have h2 : wpAny P md (headOps ops i o) (lastPost P o Q) fuel (listed.setIfInBounds i true) (a.put o.dst undef) w := by
        rcases h1 with h1 | ⟨_, a0, w0, h1⟩
        · simpa [Oper.wp, execOp, Oper.upon, Act.eval] using h1
        · cases h1
      have h3 : lastPost P o Q .normal (a.put o.dst undef) w := by
        cases fuel with
        | zero => exact h2.2
        | succ f => exact h2.1 (by rw [head_ready ho]; exact hdone)
      have h4 : o.wp P a w (fun a' w' => Q .normal a' w') (fun _ _ _ => False) := by
        have h5 : o.wp P (a.put o.dst undef) w (fun a' w' => Q .normal a' w') (fun _ _ _ => False) := h3
        unfold Oper.wp at h5 ⊢
        rw [execOp_put o hsel a o.dst undef hdst] at h5
        generalize (execOp a.eval o).run P w = r at *
        cases r with
        | ok nx w' =>
          cases nx <;> simp only [Oper.upon] at h5 ⊢
          case value v => rw [put_put] at h5; exact h5
          case skip => rw [put_put] at h5; exact h5
          case defer d =>
            cases hd : o.dst <;> simp only [hd, Act.put] at h5 ⊢
            · exact h5
            · simpa using h5
          case enter f args =>
            refine h5.mono fun e w'' he => ?_
            cases e with
            | returned v => (try dsimp only at he ⊢); rw [put_put] at he; exact he
            | panicked c => exact he
            | outgrown => exact he
          case row r args => exact h5.mono fun v w'' he => by (try dsimp only at he ⊢); rw [put_put] at he; exact he
        | halt x w' =>
          cases x <;> simp only [Oper.upon] at h5 ⊢
      unfold wpOp
      rw [ho]
      simp only [Region.wanted, hg, if_true]
      refine .inl (wp_weaken (fun a' w' hQ => ?_) (fun _ _ _ h => h.elim) (fun ⟨_, _, h⟩ => h.elim) h4)
      cases fuel with
      | zero => exact ⟨hdone, hQ⟩
      | succ f => exact ⟨fun _ => hQ, fun j hj => by rw [hdone] at hj; cases hj⟩
    · have hilt : i < n := by
        obtain ⟨_, x, hx, _⟩ := mem_ready.1 hi
        have := (Array.getElem?_eq_some_iff.1 hx).1
        omega
      unfold wpOp at h1 ⊢
      rw [head_ne hin] at h1
      cases hx : ops[i]? with
      | none => rw [hx] at h1; exact ih _ _ _ (inv.set hi hilt) h1
      | some x =>
        rw [hx] at h1
        dsimp only at h1 ⊢
        rw [head_yielded ho] at h1
        split
        · rename_i hw
          rw [if_pos hw] at h1
          rcases h1 with h1 | ⟨_, a0, w0, h1⟩
          · exact .inl (wp_weaken (fun a' w' hK => ih _ _ _ (inv.set hi hilt) hK) (fun _ _ _ h => h.elim) (fun ⟨_, _, h⟩ => h.elim) h1)
          · cases h1
        · rename_i hw
          rw [if_neg hw] at h1
          exact ih _ _ _ (inv.set hi hilt) h1

theorem headInv_start (hsz : ops.size = n + 1) : HeadInv md ops n (Array.replicate ops.size false) :=
  ⟨by simp, fun j _ _ hl => (by rw [getD_replicate_false] at hl; cases hl), fun t _ h2 => by simp [h2]⟩

/-- **THE REGION WHOSE LAST OPERATION WAITS FOR ALL OTHERS.** C: a class of worlds; each of the others yields one value in every world of C and leaves one of C; behind them the last one is run. -/
theorem wp_region_last {C : World → Prop} {id : Nat} {l : List Oper} {Q : Exit → Act → World → Prop} {a : Act} {w : World} (n : Nat) (o : Oper) (ho : l.toArray[n]? = some o) (hsz : l.toArray.size = n + 1) (hg : o.guard = none)
    (hdst : ∀ d, o.dst = some d → d ∉ o.looksAt l.toArray) (hsel : ∀ cs b, o.op ≠ .select cs b) (hm : P.follows .mixedOrders = true)
    (hs : Region.sinkB .any l.toArray n = true) (hc : Region.chainB .any l.toArray n = true) (hb : backB .any l.toArray = true) (hlex : Region.lexB .any (l.set n (struck o)).toArray = true)
    (hC : C w.drew) (h : wpQuiet P (l.set n (struck o)).toArray C (fun a' => ∀ w', C w' → o.wp P a' w' (fun a'' w'' => Q .normal a'' w'') (fun _ _ _ => False)) (l.set n (struck o)) a) :
    (Code.region id l.toArray true).wp P Q a w := by
  have hh : headOps l.toArray n o = (l.set n (struck o)).toArray := by
    have : n < l.length := by simpa using (Array.getElem?_eq_some_iff.1 ho).1
    simp [headOps]
  refine wp_region_any hm (any_of_head ho hsz hg hdst hsel hs hc hb _ _ _ _ (headInv_start hsz) ?_)
  rw [hh]
  simp only [Region.lexB, Bool.and_eq_true] at hlex
  refine wpAny_of_quiet (C := C) (Q := fun a' => ∀ w', C w' → o.wp P a' w' (fun a'' w'' => Q .normal a'' w'') (fun _ _ _ => False)) (fun a' w' hw' h => h w' hw') _ _ _ _ hC ?_
  have := wpAnyQ_lex (C := C) (md := .any) hlex.1 (l.set n (struck o)) 0 (Array.replicate (l.set n (struck o)).toArray.size false) a (by simp) (by simpa using hlex.2) h
  simpa using this
/-- A world of a class, as one thing: the walk's rules speak of 'x.w'. -/
structure Kin (C : World → Prop) where
  w : World
  has : C w

def apartB (o : Oper) (ops : Array Oper) : Bool := (match o.dst with | none => true | some d => !(o.looksAt ops).contains d) && (match o.op with | .select .. => false | _ => true)
theorem apart_dst {o : Oper} {ops : Array Oper} (h : apartB o ops = true) : ∀ d, o.dst = some d → d ∉ o.looksAt ops := by
  intro d hd
  unfold apartB at h
  rw [hd] at h
  simp only [Bool.and_eq_true] at h
  intro hm
  have := h.1
  simp [hm] at this
theorem apart_sel {o : Oper} {ops : Array Oper} (h : apartB o ops = true) : ∀ cs b, o.op ≠ .select cs b := by
  intro cs b hs
  unfold apartB at h
  rw [hs] at h
  simp at h

/-- The region whose last operation waits, at a class of kin. -/
theorem wp_region_last_kin (C : World → Prop) (n : Nat) {id : Nat} {l : List Oper} {Q : Exit → Act → World → Prop} {a : Act} {w : World} (o : Oper) (ho : l.drop n = [o]) (hg : o.guard = none)
    (hap : apartB o l.toArray = true) (hm : P.follows .mixedOrders = true)
    (hs : Region.sinkB .any l.toArray n = true) (hc : Region.chainB .any l.toArray n = true) (hb : backB .any l.toArray = true) (hlex : Region.lexB .any (l.set n (struck o)).toArray = true)
    (hC : C w.drew) (h : Nonempty (Kin C) → wpQuiet P (l.set n (struck o)).toArray (fun w' => ∃ x : Kin C, w' = x.w) (fun a' => ∀ w', (∃ x : Kin C, w' = x.w) → o.wp P a' w' (fun a'' w'' => Q .normal a'' w'') (fun _ _ _ => False)) (l.set n (struck o)) a) :
    (Code.region id l.toArray true).wp P Q a w :=
  wp_region_last (C := fun w' => ∃ x : Kin C, w' = x.w) n o (by have h0 := congrArg (fun m => m[0]?) ho; simpa [List.getElem?_drop] using h0)
    (by have h0 := congrArg List.length ho; simp at h0; simp; omega) hg (apart_dst hap) (apart_sel hap) hm hs hc hb hlex ⟨⟨_, hC⟩, rfl⟩ (h ⟨⟨_, hC⟩⟩)

/-- The region that only reads, and calls quietly, at a class of kin. -/
theorem wp_region_kin (C : World → Prop) {id : Nat} {l : List Oper} {Q : Exit → Act → World → Prop} {a : Act} {w : World} (hm : P.follows .mixedOrders = true) (hB : Region.lexB .any l.toArray = true) (hC : C w.drew)
    (h : Nonempty (Kin C) → wpQuiet P l.toArray (fun w' => ∃ x : Kin C, w' = x.w) (fun a' => ∀ w', (∃ x : Kin C, w' = x.w) → Q .normal a' w') l a) : (Code.region id l.toArray true).wp P Q a w :=
  wp_region_quiet (C := fun w' => ∃ x : Kin C, w' = x.w) hm hB ⟨⟨_, hC⟩, rfl⟩ (by simpa using h ⟨⟨_, hC⟩⟩)

/-- A callee's contract, met by kin: R, what it says of the world it leaves. -/
theorem Calls.kin {C : World → Prop} {f : FuncId} {args : Array Value} {x : Kin C} {v : Value} {P : Program} {R : World → Prop} (h : Calls P f args x.w fun e w' => e = .returned v ∧ R w') (hs : ∀ w', R w' → C w') :
    Calls P f args x.w fun e w'' => e = .returned v ∧ ∃ y : Kin C, w'' = y.w :=
  h.mono fun _ w' ⟨he, hc⟩ => ⟨he, ⟨w', hs w' hc⟩, rfl⟩
end

end Go.Proofs.YtelindgnkpfkiaaGreatDoor
end
