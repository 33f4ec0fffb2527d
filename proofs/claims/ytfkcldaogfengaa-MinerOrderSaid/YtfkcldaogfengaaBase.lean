/-
  General lemmas for the walks of this claim: appending from any source, one law for any operation whose run is known, frames by sets of blocks. Conditions: none beyond each lemma's own.
-/
import Derived.Test.YtfkcldaogfengaaProg
import Derived.WalkKit
import Derived.WalkSpells
import Derived.WalkLawsBesides
import Derived.Lib.Hide
import Derived.Deep.AppendSrc
import Derived.Deep.Quiet
import Derived.Deep.Upon
import Derived.Deep.RegionLaw
namespace Go.Proofs.Ytfkcldaogfengaa
open Go.RowKit

theorem ret_int {k : IntKind} {a b : Int} (h : a = b) : Ending.returned (.int k a) = .returned (.int k b) := by rw [h]
theorem ret_bool {a b : Bool} (h : a = b) : Ending.returned (.bool a) = .returned (.bool b) := by rw [h]

/-- min and max of two integers stay one term in a walk. -/
theorem min_int (ats : Array TypeId) (ty : TypeId) (k : IntKind) (x y : Int) : Builtin.min_ ats ty #[.int k x, .int k y] = pure (.int k (min x y)) := by
  simp only [Builtin.min_, List.foldlM, Builtin.min2, pure_bind]
  congr 2
  split <;> omega
theorem max_int (ats : Array TypeId) (ty : TypeId) (k : IntKind) (x y : Int) : Builtin.max_ ats ty #[.int k x, .int k y] = pure (.int k (max x y)) := by
  simp only [Builtin.max_, List.foldlM, Builtin.max2, pure_bind]
  congr 2
  split <;> omega
attribute [go_sem ↓] min_int max_int

section
variable {P : Program}

/-- One operation whose run is known, at a plain region. -/
theorem wpList_run {ops : Array Oper} {rest : List Oper} {o : Oper} {a : Act} {w w' : World} {v : Value} {Q : Exit → Act → World → Prop} (hg : o.guard = none)
    (hrun : (execOp a.eval o).run P w = .ok (.value v) w') (hK : wpList P ops Q rest (a.put o.dst v) w') : wpList P ops Q (o :: rest) a w := by
  refine wpList_plain hg fun K hK' => ?_
  unfold Oper.wp
  rw [hrun]
  exact hK' _ _ hK

/-- An append whose run is known. -/
theorem exec_append {o : Oper} {a : Act} {w w' : World} {v vs vx : Value} (s x : Operand) (t tx : TypeId)
    (ho : o.op = .call { callee := .builtin .append, args := #[s, x], argTypes := #[t, tx] }) (hs : a.eval s = vs) (hx : a.eval x = vx)
    (hrun : (Builtin.append_ #[t, tx] o.type #[vs, vx]).run P w = .ok v w') : (execOp a.eval o).run P w = .ok (.value v) w' := by
  simp [execOp, ho, resolve, invoke, builtin, hs, hx, hrun, Result.andThen]

theorem wpList_append_run {ops : Array Oper} {rest : List Oper} {o : Oper} {a : Act} {w w' : World} {v vs vx : Value} {Q : Exit → Act → World → Prop} (hg : o.guard = none) (s x : Operand) (t tx : TypeId)
    (ho : o.op = .call { callee := .builtin .append, args := #[s, x], argTypes := #[t, tx] }) (hs : a.eval s = vs) (hx : a.eval x = vx)
    (hrun : (Builtin.append_ #[t, tx] o.type #[vs, vx]).run P w = .ok v w') (hK : wpList P ops Q rest (a.put o.dst v) w') : wpList P ops Q (o :: rest) a w :=
  wpList_run hg (exec_append s x t tx ho hs hx hrun) hK

/-- The same as one step of a region that draws its order. -/
theorem step_append_run {ops : Array Oper} {o : Oper} {a : Act} {w w' : World} {v vs vx : Value} {K : Act → World → Prop} {Q : Exit → Act → World → Prop} {E : Prop} (hg : o.guard = none) (s x : Operand) (t tx : TypeId)
    (ho : o.op = .call { callee := .builtin .append, args := #[s, x], argTypes := #[t, tx] }) (hs : a.eval s = vs) (hx : a.eval x = vx)
    (hrun : (Builtin.append_ #[t, tx] o.type #[vs, vx]).run P w = .ok v w') (hK : K (a.put o.dst v) w') :
    if Region.wanted o (yielded ops a.tmps) = true then Oper.wp P o a w K Q else E := by
  have hw : Region.wanted o (yielded ops a.tmps) = true := by simp [Region.wanted, hg]
  rw [if_pos hw]
  unfold Oper.wp
  rw [exec_append s x t tx ho hs hx hrun]
  exact hK

/-- Appending from any source to a row of the call's own. -/
theorem append_own_src (w : World) (base : Nat) (t tx ty e : TypeId) (i : TypeInfo) (z : Value) (size bytes : Nat) (ht : P.underlying t = some (.slice e)) (hi : P.info? e = some i) (hz : i.zero = some z)
    (hsize : i.size = size) (hby : i.bytes = bytes) (hzs : z.cells.size = size)
    (v : Value) (n : Nat) (xs : List Value) (hown : w.ownsRow base e size v n xs)
    (x : Value) (m : Nat) (news : List Value) (hx : Src P size tx x m news w)
    (h63 : n + m ≤ maxLen) (hbytes : (n + m) * bytes ≤ 140737488355328) (hbase : base ≤ w.heap.size) :
    ∃ v' w', (Builtin.append_ #[t, tx] ty #[v, x]).run P w = .ok v' w' ∧ w'.ownsRow base e size v' (n + m) (xs ++ news) ∧ w.grownBy w' v.ownBlock ∧
      (v'.ownBlock = v.ownBlock ∨ v'.ownBlock = some w.heap.size) := by
  subst hsize
  subst hby
  have hsmall : n + m ≤ 9223372036854775807 := by simp only [maxLen] at h63; omega
  have hl := hx.newsLen
  have hlen : (xs ++ news).length = (n + m) * i.size := by rw [List.length_append, hown.1, hl, Nat.add_mul]
  have grown : ∀ (old : Nat), (w.drew.alloc (.cells ((xs ++ news).toArray ++ Builtin.zeroCells z.cells (grownCap w (n + m) old e - (n + m))) e)).ownsRow base e i.size
        (.slice (some ⟨w.heap.size, 0, none⟩) (n + m) (grownCap w (n + m) old e)) (n + m) (xs ++ news) ∧
      ∀ row, w.grownBy (w.drew.alloc (.cells ((xs ++ news).toArray ++ Builtin.zeroCells z.cells (grownCap w (n + m) old e - (n + m))) e)) row := by
    intro old
    have hge := grownCap_ge w (n + m) old e
    have hcm : grownCap w (n + m) old e ≤ maxLen := grownCap_le_maxLen w (n + m) old e h63
    refine ⟨⟨hlen, .inr ⟨w.heap.size, _, _, rfl, hbase, heap_alloc_new w.drew _, hge, hcm, ?_, ?_⟩⟩, fun row => ⟨rfl, rfl, rfl, by simp, fun k hk _ => Below.heap_alloc w.drew _ k hk⟩⟩
    · simp only [Array.size_append, List.size_toArray, size_zeroCells, hzs, hlen, ← Nat.add_mul]
      congr 1
      omega
    · rw [Array.toList_append, ← hlen]
      exact List.take_left
  rcases hown.2 with ⟨rfl, rfl⟩ | ⟨g, cap, cur, rfl, hbg, hg, hnc, hcm, hcs, htake⟩
  · have hx0 : xs = [] := List.eq_nil_of_length_eq_zero (by simpa using hown.1)
    subst hx0
    by_cases hm : m = 0
    · subst hm
      have hn : news = [] := List.eq_nil_of_length_eq_zero (by simpa using hl)
      subst hn
      exact ⟨.slice none 0 0, w, run_append_nothing (P := P) w t tx ty e i ht hi none 0 0 (Nat.le_refl _) x hx, World.ownsRow_nil w base e i.size, ⟨rfl, rfl, rfl, Nat.le_refl _, fun _ _ _ => rfl⟩, .inl rfl⟩
    · have hr := run_append_grow_src (P := P) w t tx ty e i z ht hi hz none 0 0 [] (run_firstCells_none w.drew i.size 0 0 0) x m news hx (by omega) (by omega) (growslice_fits (by omega) hbytes)
      have hgr := grown 0
      exact ⟨_, _, hr, hgr.1, hgr.2 _, .inr rfl⟩
  · by_cases hroom : n + m ≤ cap
    · have hfit : n * i.size + news.length ≤ cur.size := by rw [hl, hcs, ← Nat.add_mul]; exact Nat.mul_le_mul_right _ hroom
      have hst := run_storeCells_at P g (n * i.size) e news 0 cur w hg (by simpa using hfit) hx.one
      simp only [Nat.add_zero] at hst
      have hr : (Builtin.append_ #[t, tx] ty #[.slice (some ⟨g, 0, none⟩) n cap, x]).run P w =
          .ok (.slice (some ⟨g, 0, none⟩) (n + m) cap) (w.setRow g (cur.toList.take (n * i.size) ++ news ++ cur.toList.drop (n * i.size + news.length)).toArray) := by
        rcases hx.kind with ⟨e', hk⟩ | hk <;> simp [Builtin.append_, run_underlying ht, run_underlying hk, sizeOf, typeInfo, hi, hx.len, hroom, hx.cells, Addr.add_lit, hst]
      refine ⟨_, _, hr, ⟨hlen, .inr ⟨g, cap, _, rfl, hbg, setRow_heap w g cur _ e _ hg, hroom, hcm, ?_, ?_⟩⟩, ⟨rfl, rfl, rfl, by simp, fun k _ hk => setRow_other w g k _ (fun e => hk (by simp [Value.ownBlock, e]))⟩, .inl rfl⟩
      · simp only [List.size_toArray, List.length_append, List.length_take, List.length_drop, Array.length_toList]
        omega
      · rw [htake, ← hlen]
        exact List.take_left
    · have holds : ∀ j u, xs[j]? = some u → w.cell? ((⟨g, 0, none⟩ : Addr).add j) = some u := hown.cells (g := g) rfl
      have hr := run_append_grow_src (P := P) w t tx ty e i z ht hi hz (some ⟨g, 0, none⟩) n cap xs (run_firstCells_some w.drew i.size n ⟨g, 0, none⟩ n cap xs hown.1 (by simpa using holds)) x m news hx (by omega) (by omega) (growslice_fits (by omega) hbytes)
      have hgr := grown cap
      exact ⟨_, _, hr, hgr.1, hgr.2 _, .inr rfl⟩
end

/-- Between w and w' only the blocks of F have turned, and new ones came. -/
structure Fr (F : List Nat) (w w' : World) : Prop where
  os : w'.os = w.os
  tape : w'.tape = w.tape
  output : w'.output = w.output
  size : w.heap.size ≤ w'.heap.size
  block : ∀ k, k < w.heap.size → k ∉ F → w'.heap[k]? = w.heap[k]?

/-- The blocks of F' are of F, or new since w. -/
def Onto (w : World) (F F' : List Nat) : Prop := ∀ k ∈ F', k ∈ F ∨ w.heap.size ≤ k

theorem Fr.refl (F : List Nat) (w : World) : Fr F w w := ⟨rfl, rfl, rfl, Nat.le_refl _, fun _ _ _ => rfl⟩
theorem Onto.refl (w : World) (F : List Nat) : Onto w F F := fun _ h => .inl h
theorem Fr.trans {F F' : List Nat} {a b c : World} (h : Fr F a b) (o : Onto a F F') (k : Fr F' b c) : Fr F a c :=
  ⟨k.os.trans h.os, k.tape.trans h.tape, k.output.trans h.output, Nat.le_trans h.size k.size, fun i hi hn =>
    (k.block i (Nat.lt_of_lt_of_le hi h.size) (fun hm => (o i hm).elim hn (by omega))).trans (h.block i hi hn)⟩
theorem Onto.trans {F F' F'' : List Nat} {a b : World} (hs : a.heap.size ≤ b.heap.size) (h : Onto a F F') (k : Onto b F' F'') : Onto a F F'' :=
  fun i hi => (k i hi).elim (fun hm => h i hm) (fun hle => .inr (Nat.le_trans hs hle))
theorem Fr.mono {F F' : List Nat} {a b : World} (h : Fr F a b) (hs : ∀ k ∈ F, k ∈ F' ∨ a.heap.size ≤ k) : Fr F' a b :=
  ⟨h.os, h.tape, h.output, h.size, fun i hi hn => h.block i hi (fun hm => (hs i hm).elim hn (by omega))⟩
theorem Fr.below {F : List Nat} {a b : World} {B : Nat} (h : Fr F a b) (hB : B ≤ a.heap.size) (hF : ∀ k ∈ F, B ≤ k) : Below B a b :=
  ⟨h.os, h.tape, h.output, h.size, fun k hk => h.block k (by omega) (fun hm => by have := hF k hm; omega)⟩
theorem Fr.of_below {a b : World} (h : Below a.heap.size a b) (F : List Nat) : Fr F a b :=
  ⟨h.os, h.tape, h.output, h.size, fun k hk _ => h.block k hk⟩
theorem Fr.of_grown {F : List Nat} {a b : World} {row : Option Nat} (h : a.grownBy b row) (hr : ∀ k, row = some k → k ∈ F) : Fr F a b :=
  ⟨h.os, h.tape, h.output, h.size, fun k hk hn => h.block k hk (fun e => hn (hr k e.symm))⟩
theorem Fr.drew (F : List Nat) (a : World) : Fr F a a.drew := ⟨rfl, rfl, rfl, Nat.le_refl _, fun _ _ _ => rfl⟩
theorem Fr.setCell {F : List Nat} (a : World) (p : Addr) (u : Value) (hp : p.block ∈ F) : Fr F a (a.setCell p u) :=
  ⟨rfl, rfl, rfl, by simp [World.setCell], fun k _ hn => Below.heap_setCell _ _ _ _ (fun e => hn (e ▸ hp))⟩
theorem Fr.alloc (F : List Nat) (a : World) (o : Obj) : Fr F a (a.alloc o) := ⟨rfl, rfl, rfl, by simp, fun k hk _ => Below.heap_alloc a o k hk⟩
theorem Fr.cell {F : List Nat} {a b : World} (h : Fr F a b) {p : Addr} (hp : p.block < a.heap.size) (hn : p.block ∉ F) : b.cell? p = a.cell? p := World.cell?_of_block (h.block _ hp hn)

theorem ownsRow_of_block {w w' : World} {base e size n : Nat} {v : Value} {xs : List Value} (h : w.ownsRow base e size v n xs) (hb : ∀ k, v.ownBlock = some k → w'.heap[k]? = w.heap[k]?) : w'.ownsRow base e size v n xs := by
  refine ⟨h.1, ?_⟩
  rcases h.2 with hn | ⟨g, cap, cur, rfl, hbg, hg, rest⟩
  · exact .inl hn
  · exact .inr ⟨g, cap, cur, rfl, hbg, by rw [hb g rfl]; exact hg, rest⟩

theorem maxLen_eq : maxLen = 9223372036854775807 := by rfl

def bytesOf (l : List UInt8) : List Value := l.map fun b => Value.int .u8 b.toNat
theorem bytesOf_length (l : List UInt8) : (bytesOf l).length = l.length := by simp [bytesOf]
theorem bytesOf_append (l m : List UInt8) : bytesOf (l ++ m) = bytesOf l ++ bytesOf m := by simp [bytesOf]
theorem byteCells_eq (s : ByteArray) : byteCells s = bytesOf s.data.toList := rfl
theorem mk_size (l : List UInt8) : (ByteArray.mk l.toArray).size = l.length := by simp [ByteArray.size]
theorem mk_append (l : List UInt8) (s : ByteArray) : ByteArray.mk l.toArray ++ s = ⟨(l ++ s.data.toList).toArray⟩ := by apply ByteArray.ext; simp
theorem mk_mk (l m : List UInt8) : ByteArray.mk l.toArray ++ ByteArray.mk m.toArray = ⟨(l ++ m).toArray⟩ := by apply ByteArray.ext; simp
theorem mk_cut (s : ByteArray) (n : Nat) : (s.extract 0 n).data.toList = s.data.toList.take n := by simp
theorem mk_take (l : List UInt8) (n : Nat) : (ByteArray.mk l.toArray).extract 0 n = ⟨(l.take n).toArray⟩ := by apply ByteArray.ext; simp
theorem mk_data (s : ByteArray) : ByteArray.mk s.data.toList.toArray = s := by apply ByteArray.ext; simp
theorem data_len (s : ByteArray) : s.data.toList.length = s.size := by simp

theorem heap_setCell_at {w : World} {b j : Nat} {cs : Array Value} {t : TypeId} {u : Value} (h : w.heap[b]? = some (.cells cs t (0, 0))) :
    (w.setCell ⟨b, j, none⟩ u).heap[b]? = some (.cells (cs.setIfInBounds j u) t (0, 0)) := by
  obtain ⟨hlt, hv⟩ := Array.getElem?_eq_some_iff.1 h
  unfold World.setCell
  rw [Array.getElem?_eq_getElem (by simpa using hlt), Array.getElem_modify]
  simp [hv]
theorem cell_at {w : World} {b j : Nat} {cs : Array Value} {t : TypeId} (h : w.heap[b]? = some (.cells cs t (0, 0))) : w.cell? ⟨b, j, none⟩ = cs[j]? := by
  simp [World.cell?, h]
theorem free_at {w : World} {b j : Nat} {cs : Array Value} {t : TypeId} (h : w.heap[b]? = some (.cells cs t (0, 0))) : w.frozen? ⟨b, j, none⟩ = false := by
  simp [World.frozen?, h]

theorem ownsRow_shape {w : World} {base e size n : Nat} {v : Value} {xs : List Value} (h : w.ownsRow base e size v n xs) : ∃ a c, v = .slice a n c ∧ n ≤ c ∧ c ≤ maxLen := by
  rcases h.2 with ⟨rfl, rfl⟩ | ⟨g, cap, cur, rfl, _, _, h1, h2, _⟩
  · exact ⟨_, _, rfl, Nat.le_refl _, by simp⟩
  · exact ⟨_, _, rfl, h1, h2⟩
theorem ownsRow_base {w : World} {base base' e size n : Nat} {v : Value} {xs : List Value} (h : w.ownsRow base e size v n xs) (hb : base' ≤ base) : w.ownsRow base' e size v n xs := by
  refine ⟨h.1, ?_⟩
  rcases h.2 with hn | ⟨g, cap, cur, e1, hbg, rest⟩
  · exact .inl hn
  · exact .inr ⟨g, cap, cur, e1, Nat.le_trans hb hbg, rest⟩
theorem ownsRow_cut {w : World} {base e n m c : Nat} {a : Option Addr} {xs : List Value} (h : w.ownsRow base e 1 (.slice a n c) n xs) (hm : m ≤ n) : w.ownsRow base e 1 (.slice a m c) m (xs.take m) := by
  have hl := h.1
  refine ⟨by rw [List.length_take]; omega, ?_⟩
  rcases h.2 with ⟨h1, h2⟩ | ⟨g, cap, cur, h1, hb, hg, h2, h3, h4, h5⟩
  · obtain ⟨rfl, rfl, rfl⟩ : a = none ∧ n = 0 ∧ c = 0 := by simpa using h1
    obtain rfl : m = 0 := by omega
    exact .inl ⟨rfl, rfl⟩
  · obtain ⟨rfl, rfl⟩ : a = some ⟨g, 0, none⟩ ∧ c = cap := by simpa using h1
    refine .inr ⟨g, c, cur, rfl, hb, hg, by omega, h3, h4, ?_⟩
    rw [← h5, List.take_take]
    congr 1
    omega
/-- What is owned from a base on stays owned if nothing but new blocks comes. -/
theorem ownsRow_below {w w' : World} {base e size n : Nat} {v : Value} {xs : List Value} (h : w.ownsRow base e size v n xs) (hb : Below w.heap.size w w') : w'.ownsRow base e size v n xs :=
  ownsRow_of_block h fun k hk => hb.block k (h.lt k hk).2

section
variable {P : Program}
/-- 'append(s, x)': one element, which the statement has laid into a block of its own. -/
theorem append_el {w : World} {base t ty e size bytes n : Nat} {i : TypeInfo} {z v : Value} {xs : List Value} (ht : P.underlying t = some (.slice e)) (hi : P.info? e = some i) (hz : i.zero = some z)
    (hsize : i.size = size) (hby : i.bytes = bytes) (hzs : z.cells.size = size) (hown : w.ownsRow base e size v n xs) (cs : Array Value) (hcs : cs.size = size) (h1 : ∀ u ∈ cs.toList, u.oneCell' = true)
    (hn : n + 1 ≤ maxLen) (hb : (n + 1) * bytes ≤ 140737488355328) (hbase : base ≤ w.heap.size) :
    ∃ a' c' w', (Builtin.append_ #[t, t] ty #[v, .slice (some ⟨w.heap.size, 0, none⟩) 1 1]).run P (w.alloc (.cells cs e)) = .ok (.slice a' (n + 1) c') w' ∧
      w'.ownsRow base e size (.slice a' (n + 1) c') (n + 1) (xs ++ cs.toList) ∧ Below base w w' ∧ (w.alloc (.cells cs e)).grownBy w' v.ownBlock := by
  obtain ⟨v', w', hr, ho, hg, _⟩ := append_own_src (P := P) (w.alloc (.cells cs e)) base t t ty e i z size bytes ht hi hz hsize hby hzs v n xs (hown.alloc _) (.slice (some ⟨w.heap.size, 0, none⟩) 1 1) 1 cs.toList
    (Src.ofSlice _ ht ⟨w.heap.size, 0, none⟩ 1 1 cs.toList (by simp [hcs]) (fun j u hj => by
      rw [Addr.add_lit, Nat.zero_add, cell_at (heap_alloc_new w (.cells cs e))]
      simpa using hj) h1) hn hb (by simp; omega)
  obtain ⟨a', c', rfl, _, _⟩ := ownsRow_shape ho
  exact ⟨a', c', w', hr, ho, ((Below.refl base w).alloc hbase _).grown hg (by simp; omega) (fun k hk => (hown.lt k hk).1), hg⟩
end

end Go.Proofs.Ytfkcldaogfengaa
