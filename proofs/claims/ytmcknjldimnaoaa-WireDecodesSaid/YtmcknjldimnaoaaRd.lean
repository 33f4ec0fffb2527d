/-
  What holds while the program's reader reads a transaction. Conditions: none beyond each lemma's own.
-/
import Derived.Test.YtmcknjldimnaoaaRc
import Derived.Test.YtmcknjldimnaoaaCut
namespace Go.Proofs.Ytmcknjldimnaoaa
open Go.RowKit Go.BigFrame
set_option linter.unusedVariables false
set_option linter.unusedSimpArgs false

/-- The reader in block b, the result's box X, the transaction's box Y, its rows behind Y. -/
structure RD (w : World) (b X Y : Nat) (s : ByteArray) (ver : Nat) (z : Zst) (vi vo : Value) (xs : List PIn) (os : List POut) (wr : World) : Prop where
  rd : RdAt b s z wr
  fr : Fr [b] w wr
  x : wr.heap[X]? = some (.cells #[.int .u32 0, .slice none 0 0, .slice none 0 0, .int .u32 0] 26 (0, 0))
  y : wr.heap[Y]? = some (.cells #[.int .u32 ver, vi, vo, .int .u32 0] 26 (0, 0))
  ins : ∃ ps, xs = ps.map (·.1) ∧ InsOwn (Y + 1) wr vi ps ∧ ∀ k, vo.ownBlock = some k → ¬ InsHas vi ps k
  outs : OutsOwn (Y + 1) wr vo os
  num : b < w.heap.size ∧ w.heap.size ≤ X ∧ X < Y
section
variable {w wr w' : World} {b X Y ver : Nat} {s : ByteArray} {z z' : Zst} {vi vo : Value} {xs : List PIn} {os : List POut}
theorem RD.ylt (h : RD w b X Y s ver z vi vo xs os wr) : Y < wr.heap.size := (Array.getElem?_eq_some_iff.1 h.y).1
theorem RD.call (h : RD w b X Y s ver z vi vo xs os wr) (ha : RdAt b s z' w') (hf : Fr [b] wr w') : RD w b X Y s ver z' vi vo xs os w' := by
  have hn := h.num
  obtain ⟨ps, hp, h1, h2⟩ := h.ins
  exact ⟨ha, h.fr.trans' hf, hf.heap h.x (by simp; omega), hf.heap h.y (by simp; omega), ⟨ps, hp, h1.kept fun k hk => hf.block k (h1.lt hk).2 (by have := (h1.lt hk).1; simp; omega), h2⟩,
    h.outs.kept fun k hk => hf.block k (h.outs.row.lt k hk).2 (by have := (h.outs.row.lt k hk).1; simp; omega), hn⟩
theorem RD.below (h : RD w b X Y s ver z vi vo xs os wr) (hb : Below wr.heap.size wr w') : RD w b X Y s ver z vi vo xs os w' := h.call (h.rd.below hb) (Fr.bel hb)
theorem RD.tx (h : RD w b X Y s ver z vi vo xs os wr) (hv : ver < 4294967296) : TxAt wr (.agg #[.int .u32 ver, vi, vo, .int .u32 0]) ⟨ver, xs, os, 0⟩ := by
  obtain ⟨ps, rfl, h1, h2⟩ := h.ins
  exact ⟨vi, vo, rfl, h1.sl, h.outs.sl, hv, by show (0 : Nat) < _; omega⟩
theorem RD.own (h : RD w b X Y s ver z vi vo xs os wr) (hv : ver < 4294967296) (lock : Nat) (hl : lock < 4294967296) : TxOwn (Y + 1) wr (.agg #[.int .u32 ver, vi, vo, .int .u32 lock]) ⟨ver, xs, os, lock⟩ := by
  obtain ⟨ps, rfl, h1, h2⟩ := h.ins
  exact ⟨⟨vi, vo, ps, rfl, rfl, h1, h.outs, h2⟩, hv, hl⟩
theorem RD.ilen (h : RD w b X Y s ver z vi vo xs os wr) : ∃ a c, vi = .slice a xs.length c ∧ xs.length ≤ c ∧ c ≤ maxLen := by
  obtain ⟨ps, rfl, h1, -⟩ := h.ins
  rw [List.length_map]
  exact ownsRow_shape h1.row
theorem RD.olen (h : RD w b X Y s ver z vi vo xs os wr) : ∃ a c, vo = .slice a os.length c ∧ os.length ≤ c ∧ c ≤ maxLen := ownsRow_shape h.outs.row
/-- The transaction's box at another world in which its own block has been written alone. -/
theorem frY (hX : Fr [b] w wr) (hb : w.heap.size ≤ Y) (j : Nat) (u : Value) : Fr [b] w (wr.setCell ⟨Y, j, none⟩ u) := by
  refine (fr_wide (X := Y) (Y := Y) hX).trans' (Fr.setCell wr ⟨Y, j, none⟩ u (by simp)) |>.mono fun k hk => ?_
  simp only [List.mem_cons, List.not_mem_nil, or_false] at hk
  rcases hk with rfl | rfl | rfl
  · exact .inl (by simp)
  · exact .inr hb
  · exact .inr hb
/-- One In more. -/
theorem RD.addIn {a : Option Addr} {n c : Nat} (h : RD w b X Y s ver z (.slice a n c) vo xs os wr) (hn : n ≤ 1000) (x : PIn) (hw : x.wit = []) (hx : OkIn x) :
    ∃ a' c' w', (Builtin.append_ #[23, 23] 23 #[.slice a n c, .slice (some ⟨wr.heap.size, 0, none⟩) 1 1]).run Try.prog (wr.alloc (.cells #[.string x.id, .int .u32 x.idx, .int .u32 x.seq, .slice none 0 0] 47)) = .ok (.slice a' (n + 1) c') w' ∧
      w'.heap[Y]? = wr.heap[Y]? ∧ RD w b X Y s ver z (.slice a' (n + 1) c') vo (xs ++ [x]) os (w'.setCell ⟨Y, 1, none⟩ (.slice a' (n + 1) c')) := by
  obtain ⟨ps, rfl, h1, h2⟩ := h.ins
  have hyl := h.ylt
  have hnum := h.num
  have hl : ps.length = n := by
    obtain ⟨a9, c9, e9, -, -⟩ := ownsRow_shape h1.row
    have : n = ps.length := by simpa using (congrArg (fun v => match v with | .slice _ n _ => n | _ => 0) e9)
    exact this.symm
  subst hl
  obtain ⟨i0, hi, hz0, hz1, hz2⟩ := info_parts info_in
  obtain ⟨a3, c3, w3, hrun, hown3, hb3, hg3, hv3⟩ := append_one (P := Try.prog) Try.underlying23 hi hz0 hz1 hz2 rfl h1.row #[.string x.id, .int .u32 x.idx, .int .u32 x.seq, .slice none 0 0] rfl (by simp [Value.oneCell']) (by rw [maxLen_eq]; omega) (by omega) (by omega) (ty := 23)
  have hkeep : ∀ k, k < wr.heap.size → (Value.slice a ps.length c).ownBlock ≠ some k → w3.heap[k]? = wr.heap[k]? := fun k hk hne => by
    rw [hg3.block k (by simp; omega) (fun e => hne e.symm)]
    exact Below.heap_alloc _ _ k hk
  have hbw : ∀ k, k ≤ Y → w3.heap[k]? = wr.heap[k]? := fun k hk => hb3.block k (by omega)
  have hsz : wr.heap.size ≤ w3.heap.size := hb3.size
  have hsn : InsOwn (Y + 1) w3 (.slice a3 (ps.length + 1) c3) (ps ++ [(x, .slice none 0 0)]) := by
    refine h1.snoc hown3 ?_ hkeep ?_ hx (fun k e => by cases e)
    · rcases hv3 with e | e
      · exact .inl e
      · exact .inr ⟨_, e, by omega, by simp [Value.ownBlock]⟩
    · rw [hw]; exact World.ownsRow_nil _ _ _ _
  refine ⟨a3, c3, w3, hrun, hbw Y (Nat.le_refl _), ?_⟩
  have hset : ∀ k, k ≠ Y → (w3.setCell ⟨Y, 1, none⟩ (.slice a3 (ps.length + 1) c3)).heap[k]? = w3.heap[k]? := fun k hk => Below.heap_setCell _ _ _ _ hk
  have hout : OutsOwn (Y + 1) w3 vo os := h.outs.kept fun k hk => hkeep k (h.outs.row.lt k hk).2 fun e => h2 k hk (.inl e)
  refine ⟨(hset b (by omega)).trans ((hbw b (by omega)).trans h.rd), frY ?_ (by omega) _ _, (hset X (by omega)).trans ((hbw X (by omega)).trans h.x), heap_setCell_at ((hbw Y (Nat.le_refl _)).trans h.y), ⟨_, ?_, hsn.store _ _ (fun hh => by have := (hsn.lt hh).1; dsimp only at this; omega), fun k hk hh => ?_⟩, hout.kept fun k hk => hset k (by have := (hout.row.lt k hk).1; omega), hnum⟩
  · exact ⟨hb3.os.trans h.fr.os, hb3.tape.trans h.fr.tape, hb3.output.trans h.fr.output, Nat.le_trans h.fr.size hsz, fun k hk hn => (hbw k (by omega)).trans (h.fr.block k hk hn)⟩
  · simp
  · have hko := (h.outs.row.lt k hk).2
    rcases hh with hh | ⟨i, p, hp, hh⟩
    · rcases hv3 with e | e
      · exact h2 k hk (.inl (e ▸ hh))
      · rw [e] at hh; have := Option.some.inj hh; omega
    · rw [List.getElem?_append] at hp
      split at hp
      · exact h2 k hk (.inr ⟨i, p, hp, hh⟩)
      · have hp2 : p = (x, .slice none 0 0) := by
          have := List.mem_of_getElem? hp
          simpa using this
        rw [hp2] at hh
        cases hh
/-- One Out more. -/
theorem RD.addOut {a : Option Addr} {n c : Nat} (h : RD w b X Y s ver z vi (.slice a n c) xs os wr) (hn : n ≤ 1000) (x : POut) (hx : OkOut x) :
    ∃ a' c' w', (Builtin.append_ #[24, 24] 24 #[.slice a n c, .slice (some ⟨wr.heap.size, 0, none⟩) 1 1]).run Try.prog (wr.alloc (.cells #[.int .i64 x.val, .string x.script] 59)) = .ok (.slice a' (n + 1) c') w' ∧
      w'.heap[Y]? = wr.heap[Y]? ∧ RD w b X Y s ver z vi (.slice a' (n + 1) c') xs (os ++ [x]) (w'.setCell ⟨Y, 2, none⟩ (.slice a' (n + 1) c')) := by
  obtain ⟨ps, rfl, h1, h2⟩ := h.ins
  have hyl := h.ylt
  have hnum := h.num
  have hl : os.length = n := by
    obtain ⟨a9, c9, e9, -, -⟩ := ownsRow_shape h.outs.row
    have : n = os.length := by simpa using (congrArg (fun v => match v with | .slice _ n _ => n | _ => 0) e9)
    exact this.symm
  subst hl
  obtain ⟨i0, hi, hz0, hz1, hz2⟩ := info_parts info_out
  obtain ⟨a3, c3, w3, hrun, hown3, hb3, hg3, hv3⟩ := append_one (P := Try.prog) Try.underlying24 hi hz0 hz1 hz2 rfl h.outs.row #[.int .i64 x.val, .string x.script] rfl (by simp [Value.oneCell']) (by rw [maxLen_eq]; omega) (by omega) (by omega) (ty := 24)
  have hkeep : ∀ k, k < wr.heap.size → (Value.slice a os.length c).ownBlock ≠ some k → w3.heap[k]? = wr.heap[k]? := fun k hk hne => by
    rw [hg3.block k (by simp; omega) (fun e => hne e.symm)]
    exact Below.heap_alloc _ _ k hk
  have hbw : ∀ k, k ≤ Y → w3.heap[k]? = wr.heap[k]? := fun k hk => hb3.block k (by omega)
  have hsz : wr.heap.size ≤ w3.heap.size := hb3.size
  have hset : ∀ k, k ≠ Y → (w3.setCell ⟨Y, 2, none⟩ (.slice a3 (os.length + 1) c3)).heap[k]? = w3.heap[k]? := fun k hk => Below.heap_setCell _ _ _ _ hk
  have hins : InsOwn (Y + 1) w3 vi ps := h1.kept fun k hk => hkeep k (h1.lt hk).2 fun e => h2 k e hk
  refine ⟨a3, c3, w3, hrun, hbw Y (Nat.le_refl _), ?_⟩
  refine ⟨(hset b (by omega)).trans ((hbw b (by omega)).trans h.rd), frY ?_ (by omega) _ _, (hset X (by omega)).trans ((hbw X (by omega)).trans h.x), heap_setCell_at ((hbw Y (Nat.le_refl _)).trans h.y), ⟨ps, rfl, hins.kept fun k hk => hset k (by have := (hins.lt hk).1; omega), fun k hk hh => ?_⟩, ⟨?_, fun y hy => ?_⟩, hnum⟩
  · exact ⟨hb3.os.trans h.fr.os, hb3.tape.trans h.fr.tape, hb3.output.trans h.fr.output, Nat.le_trans h.fr.size hsz, fun k hk hn => (hbw k (by omega)).trans (h.fr.block k hk hn)⟩
  · rcases hv3 with e | e
    · exact h2 k (e ▸ hk) hh
    · rw [e] at hk; have := Option.some.inj hk; have := (h1.lt hh).2; omega
  · have e : outsCells (os ++ [x]) = outsCells os ++ [.int .i64 x.val, .string x.script] := by simp [outsCells, outRow]
    rw [e, List.length_append]
    exact ownsRow_other hown3 _ _ (fun e => by have := (hown3.lt Y e).1; omega)
  · rcases List.mem_append.1 hy with hy | hy
    · exact h.outs.ok y hy
    · rw [List.mem_singleton.1 hy]; exact hx
/-- An In's witness, of texts in a new row. -/
theorem RD.wit {i N : Nat} {x : PIn} {wv : Value} {l' : List ByteArray} (h : RD w b X Y s ver z vi vo xs os wr) (hi : xs[i]? = some x) (ha : RdAt b s z' w') (hf : Fr [b] wr w') (hN : N = wr.heap.size)
    (hrow : w'.ownsRow N 9 1 wv l'.length (strCells l')) (hok : okStrs l') :
    ∃ b0 c v0, vi = .slice (some ⟨b0, 0, none⟩) xs.length c ∧ w'.cell? ⟨b0, i * 4 + 3, none⟩ = some v0 ∧ w'.frozen? ⟨b0, i * 4 + 3, none⟩ = false ∧
      RD w b X Y s ver z' vi vo (xs.set i { x with wit := l' }) os (w'.setCell ⟨b0, i * 4 + 3, none⟩ wv) := by
  have hc := h.call ha hf
  subst hN
  obtain ⟨ps, rfl, h1, h2⟩ := h.ins
  have h1' : InsOwn (Y + 1) w' vi ps := h1.kept fun k hk => hf.block k (h1.lt hk).2 (by have := (h1.lt hk).1; have := h.num; simp; omega)
  rw [List.getElem?_map] at hi
  obtain ⟨⟨y, v0⟩, hp, rfl⟩ := Option.map_eq_some_iff.1 hi
  obtain ⟨a, c, rfl, hc1, hc2⟩ := ownsRow_shape h1.row
  obtain ⟨b0, rfl, hb1, hb2, e0, e1, e2, e3⟩ := h1'.at hp
  have hyl := h.ylt
  have hnum := h.num
  have hfresh : ∀ G, wv.ownBlock = some G → wr.heap.size ≤ G := fun G e => (hrow.lt G e).1
  have hokx := h1.ok i _ hp
  have hset := h1'.set (p' := ({ y with wit := l' }, wv)) hp 3 wv (by omega) rfl (ownsRow_base hrow (by omega)) ⟨hokx.id, hokx.idx, hokx.seq, hok⟩ (by
    cases e : wv.ownBlock with
    | none => exact .inr (.inl rfl)
    | some G => exact .inr (.inr ⟨G, rfl, fun hh => by have := (h1.lt hh).2; have := hfresh G e; omega⟩))
  have hb0 : b0 < wr.heap.size := (h1.lt (.inl rfl)).2
  have hsc : ∀ k, k ≠ b0 → (w'.setCell ⟨b0, i * 4 + 3, none⟩ wv).heap[k]? = w'.heap[k]? := fun k hk => Below.heap_setCell _ _ _ _ hk
  refine ⟨b0, c, v0, by rw [List.length_map], e3, ownsRow_free h1'.row _, ?_⟩
  refine ⟨(hsc b (by omega)).trans ha, frY hc.fr (by omega) _ _, (hsc X (by omega)).trans hc.x, (hsc Y (by omega)).trans hc.y, ⟨_, (List.map_set (f := Prod.fst) (l := ps) (i := i) (a := ({ y with wit := l' }, wv))).symm, hset, fun k hk hh => ?_⟩, hc.outs.kept fun k hk => hsc k fun e => h2 k hk (.inl (by rw [e]; rfl)), hnum⟩
  have hko := (h.outs.row.lt k hk).2
  rcases hh with hh | ⟨j, q, hq, hh⟩
  · exact h2 k hk (.inl hh)
  · by_cases hij : i = j
    · subst hij
      rw [List.getElem?_set_self (List.getElem?_eq_some_iff.1 hp).1] at hq
      obtain rfl := Option.some.inj hq
      have := hfresh k hh
      omega
    · rw [List.getElem?_set_ne hij] at hq
      exact h2 k hk (.inr ⟨j, q, hq, hh⟩)
end
end Go.Proofs.Ytmcknjldimnaoaa
