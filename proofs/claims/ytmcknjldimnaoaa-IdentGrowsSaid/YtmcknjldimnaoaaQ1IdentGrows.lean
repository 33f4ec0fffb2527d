/-
  IdentGrows, part 1: the texts Rd, Re, Rf, Rl, Rn, Ih, Ii, IdentGrowsLaw, one after another. Conditions: none beyond those named at each.
-/
import Derived.Test.YtmcknjldimnaoaaRc
import Derived.Test.YtmcknjldimnaoaaCut
import Derived.Test.YtmcknjldimnaoaaWd
import Derived.Test.YtmcknjldimnaoaaTxQ
import Derived.Test.YtmcknjldimnaoaaTxH
import Derived.Test.YtmcknjldimnaoaaShelf
import Derived.Deep.RegionHeld3
import Derived.Test.YtmcknjldimnaoaaFit
import Derived.Test.YtmcknjldimnaoaaIc
import Derived.Test.YtmcknjldimnaoaaTxJ
import Derived.Test.YtmcknjldimnaoaaRows
import Derived.ProofKit
import Derived.OpenShut
import Derived.ShutString
import Derived.ChangeOld
import Derived.Below
section
/-
  What holds while the program's reader reads a transaction. Conditions: none beyond each lemma's own.
-/
namespace Go.Proofs.Ytmcknjldimnaoaa
open Go.RowKit Go.BigFrame
set_option linter.unusedVariables false
set_option linter.unusedSimpArgs false

/-- The reader in block b, the result's box X, the transaction's box Y, its rows behind Y. -/
structure RD (w : World) (b X Y : Nat) (s : ByteArray) (ver : Nat) (z : Zst) (vi vo : Value) (xs : List PIn) (os : List POut) (wr : World) : Prop where
  rd : RdAt b s z wr
  fr : Fr [b] w wr
  x : wr.heap[X]? = some (.cells #[.int .u32 0, .slice none 0 0, .slice none 0 0, .int .u32 0] 26 (0, 0))
  y : wr.heap[Y]? = some (.cells #[.int .u32 ver, vi, vo, .int .u32 0] 26 (0, 0))
  ins : ∃ ps, xs = ps.map (·.1) ∧ InsOwn (Y + 1) wr vi ps ∧ ∀ k, vo.ownBlock = some k → ¬ InsHas vi ps k
  outs : OutsOwn (Y + 1) wr vo os
  num : b < w.heap.size ∧ w.heap.size ≤ X ∧ X < Y
section
variable {w wr w' : World} {b X Y ver : Nat} {s : ByteArray} {z z' : Zst} {vi vo : Value} {xs : List PIn} {os : List POut}
theorem RD.ylt (h : RD w b X Y s ver z vi vo xs os wr) : Y < wr.heap.size := (Array.getElem?_eq_some_iff.1 h.y).1
theorem RD.call (h : RD w b X Y s ver z vi vo xs os wr) (ha : RdAt b s z' w') (hf : Fr [b] wr w') : RD w b X Y s ver z' vi vo xs os w' := by
  have hn := h.num
  obtain ⟨ps, hp, h1, h2⟩ := h.ins
  exact ⟨ha, h.fr.trans' hf, hf.heap h.x (by simp; omega), hf.heap h.y (by simp; omega), ⟨ps, hp, h1.kept fun k hk => hf.block k (h1.lt hk).2 (by have := (h1.lt hk).1; simp; omega), h2⟩,
    h.outs.kept fun k hk => hf.block k (h.outs.row.lt k hk).2 (by have := (h.outs.row.lt k hk).1; simp; omega), hn⟩
theorem RD.below (h : RD w b X Y s ver z vi vo xs os wr) (hb : Below wr.heap.size wr w') : RD w b X Y s ver z vi vo xs os w' := h.call (h.rd.below hb) (Fr.bel hb)
theorem RD.tx (h : RD w b X Y s ver z vi vo xs os wr) (hv : ver < 4294967296) : TxAt wr (.agg #[.int .u32 ver, vi, vo, .int .u32 0]) ⟨ver, xs, os, 0⟩ := by
  obtain ⟨ps, rfl, h1, h2⟩ := h.ins
  exact ⟨vi, vo, rfl, h1.sl, h.outs.sl, hv, by show (0 : Nat) < _; omega⟩
theorem RD.own (h : RD w b X Y s ver z vi vo xs os wr) (hv : ver < 4294967296) (lock : Nat) (hl : lock < 4294967296) : TxOwn (Y + 1) wr (.agg #[.int .u32 ver, vi, vo, .int .u32 lock]) ⟨ver, xs, os, lock⟩ := by
  obtain ⟨ps, rfl, h1, h2⟩ := h.ins
  exact ⟨⟨vi, vo, ps, rfl, rfl, h1, h.outs, h2⟩, hv, hl⟩
theorem RD.ilen (h : RD w b X Y s ver z vi vo xs os wr) : ∃ a c, vi = .slice a xs.length c ∧ xs.length ≤ c ∧ c ≤ maxLen := by
  obtain ⟨ps, rfl, h1, -⟩ := h.ins
  rw [List.length_map]
  exact ownsRow_shape h1.row
theorem RD.olen (h : RD w b X Y s ver z vi vo xs os wr) : ∃ a c, vo = .slice a os.length c ∧ os.length ≤ c ∧ c ≤ maxLen := ownsRow_shape h.outs.row
/-- The transaction's box at another world in which its own block has been written alone. -/
theorem frY (hX : Fr [b] w wr) (hb : w.heap.size ≤ Y) (j : Nat) (u : Value) : Fr [b] w (wr.setCell ⟨Y, j, none⟩ u) := by
  refine (fr_wide (X := Y) (Y := Y) hX).trans' (Fr.setCell wr ⟨Y, j, none⟩ u (by simp)) |>.mono fun k hk => ?_
  simp only [List.mem_cons, List.not_mem_nil, or_false] at hk
  rcases hk with rfl | rfl | rfl
  · exact .inl (by simp)
  · exact .inr hb
  · exact .inr hb
/-- One In more. -/
theorem RD.addIn {a : Option Addr} {n c : Nat} (h : RD w b X Y s ver z (.slice a n c) vo xs os wr) (hn : n ≤ 1000) (x : PIn) (hw : x.wit = []) (hx : OkIn x) :
    ∃ a' c' w', (Builtin.append_ #[23, 23] 23 #[.slice a n c, .slice (some ⟨wr.heap.size, 0, none⟩) 1 1]).run Try.prog (wr.alloc (.cells #[.string x.id, .int .u32 x.idx, .int .u32 x.seq, .slice none 0 0] 47)) = .ok (.slice a' (n + 1) c') w' ∧
      w'.heap[Y]? = wr.heap[Y]? ∧ RD w b X Y s ver z (.slice a' (n + 1) c') vo (xs ++ [x]) os (w'.setCell ⟨Y, 1, none⟩ (.slice a' (n + 1) c')) := by
  obtain ⟨ps, rfl, h1, h2⟩ := h.ins
  have hyl := h.ylt
  have hnum := h.num
  have hl : ps.length = n := by
    obtain ⟨a9, c9, e9, -, -⟩ := ownsRow_shape h1.row
    have : n = ps.length := by simpa using (congrArg (fun v => match v with | .slice _ n _ => n | _ => 0) e9)
    exact this.symm
  subst hl
  obtain ⟨i0, hi, hz0, hz1, hz2⟩ := info_parts info_in
  obtain ⟨a3, c3, w3, hrun, hown3, hb3, hg3, hv3⟩ := append_one (P := Try.prog) Try.underlying23 hi hz0 hz1 hz2 rfl h1.row #[.string x.id, .int .u32 x.idx, .int .u32 x.seq, .slice none 0 0] rfl (by simp [Value.oneCell']) (by rw [maxLen_eq]; omega) (by omega) (by omega) (ty := 23)
  have hkeep : ∀ k, k < wr.heap.size → (Value.slice a ps.length c).ownBlock ≠ some k → w3.heap[k]? = wr.heap[k]? := fun k hk hne => by
    rw [hg3.block k (by simp; omega) (fun e => hne e.symm)]
    exact Below.heap_alloc _ _ k hk
  have hbw : ∀ k, k ≤ Y → w3.heap[k]? = wr.heap[k]? := fun k hk => hb3.block k (by omega)
  have hsz : wr.heap.size ≤ w3.heap.size := hb3.size
  have hsn : InsOwn (Y + 1) w3 (.slice a3 (ps.length + 1) c3) (ps ++ [(x, .slice none 0 0)]) := by
    refine h1.snoc hown3 ?_ hkeep ?_ hx (fun k e => by cases e)
    · rcases hv3 with e | e
      · exact .inl e
      · exact .inr ⟨_, e, by omega, by simp [Value.ownBlock]⟩
    · rw [hw]; exact World.ownsRow_nil _ _ _ _
  refine ⟨a3, c3, w3, hrun, hbw Y (Nat.le_refl _), ?_⟩
  have hset : ∀ k, k ≠ Y → (w3.setCell ⟨Y, 1, none⟩ (.slice a3 (ps.length + 1) c3)).heap[k]? = w3.heap[k]? := fun k hk => Below.heap_setCell _ _ _ _ hk
  have hout : OutsOwn (Y + 1) w3 vo os := h.outs.kept fun k hk => hkeep k (h.outs.row.lt k hk).2 fun e => h2 k hk (.inl e)
  refine ⟨(hset b (by omega)).trans ((hbw b (by omega)).trans h.rd), frY ?_ (by omega) _ _, (hset X (by omega)).trans ((hbw X (by omega)).trans h.x), heap_setCell_at ((hbw Y (Nat.le_refl _)).trans h.y), ⟨_, ?_, hsn.store _ _ (fun hh => by have := (hsn.lt hh).1; dsimp only at this; omega), fun k hk hh => ?_⟩, hout.kept fun k hk => hset k (by have := (hout.row.lt k hk).1; omega), hnum⟩
  · exact ⟨hb3.os.trans h.fr.os, hb3.tape.trans h.fr.tape, hb3.output.trans h.fr.output, Nat.le_trans h.fr.size hsz, fun k hk hn => (hbw k (by omega)).trans (h.fr.block k hk hn)⟩
  · simp
  · have hko := (h.outs.row.lt k hk).2
    rcases hh with hh | ⟨i, p, hp, hh⟩
    · rcases hv3 with e | e
      · exact h2 k hk (.inl (e ▸ hh))
      · rw [e] at hh; have := Option.some.inj hh; omega
    · rw [List.getElem?_append] at hp
      split at hp
      · exact h2 k hk (.inr ⟨i, p, hp, hh⟩)
      · have hp2 : p = (x, .slice none 0 0) := by
          have := List.mem_of_getElem? hp
          simpa using this
        rw [hp2] at hh
        cases hh
/-- One Out more. -/
theorem RD.addOut {a : Option Addr} {n c : Nat} (h : RD w b X Y s ver z vi (.slice a n c) xs os wr) (hn : n ≤ 1000) (x : POut) (hx : OkOut x) :
    ∃ a' c' w', (Builtin.append_ #[24, 24] 24 #[.slice a n c, .slice (some ⟨wr.heap.size, 0, none⟩) 1 1]).run Try.prog (wr.alloc (.cells #[.int .i64 x.val, .string x.script] 59)) = .ok (.slice a' (n + 1) c') w' ∧
      w'.heap[Y]? = wr.heap[Y]? ∧ RD w b X Y s ver z vi (.slice a' (n + 1) c') xs (os ++ [x]) (w'.setCell ⟨Y, 2, none⟩ (.slice a' (n + 1) c')) := by
  obtain ⟨ps, rfl, h1, h2⟩ := h.ins
  have hyl := h.ylt
  have hnum := h.num
  have hl : os.length = n := by
    obtain ⟨a9, c9, e9, -, -⟩ := ownsRow_shape h.outs.row
    have : n = os.length := by simpa using (congrArg (fun v => match v with | .slice _ n _ => n | _ => 0) e9)
    exact this.symm
  subst hl
  obtain ⟨i0, hi, hz0, hz1, hz2⟩ := info_parts info_out
  obtain ⟨a3, c3, w3, hrun, hown3, hb3, hg3, hv3⟩ := append_one (P := Try.prog) Try.underlying24 hi hz0 hz1 hz2 rfl h.outs.row #[.int .i64 x.val, .string x.script] rfl (by simp [Value.oneCell']) (by rw [maxLen_eq]; omega) (by omega) (by omega) (ty := 24)
  have hkeep : ∀ k, k < wr.heap.size → (Value.slice a os.length c).ownBlock ≠ some k → w3.heap[k]? = wr.heap[k]? := fun k hk hne => by
    rw [hg3.block k (by simp; omega) (fun e => hne e.symm)]
    exact Below.heap_alloc _ _ k hk
  have hbw : ∀ k, k ≤ Y → w3.heap[k]? = wr.heap[k]? := fun k hk => hb3.block k (by omega)
  have hsz : wr.heap.size ≤ w3.heap.size := hb3.size
  have hset : ∀ k, k ≠ Y → (w3.setCell ⟨Y, 2, none⟩ (.slice a3 (os.length + 1) c3)).heap[k]? = w3.heap[k]? := fun k hk => Below.heap_setCell _ _ _ _ hk
  have hins : InsOwn (Y + 1) w3 vi ps := h1.kept fun k hk => hkeep k (h1.lt hk).2 fun e => h2 k e hk
  refine ⟨a3, c3, w3, hrun, hbw Y (Nat.le_refl _), ?_⟩
  refine ⟨(hset b (by omega)).trans ((hbw b (by omega)).trans h.rd), frY ?_ (by omega) _ _, (hset X (by omega)).trans ((hbw X (by omega)).trans h.x), heap_setCell_at ((hbw Y (Nat.le_refl _)).trans h.y), ⟨ps, rfl, hins.kept fun k hk => hset k (by have := (hins.lt hk).1; omega), fun k hk hh => ?_⟩, ⟨?_, fun y hy => ?_⟩, hnum⟩
  · exact ⟨hb3.os.trans h.fr.os, hb3.tape.trans h.fr.tape, hb3.output.trans h.fr.output, Nat.le_trans h.fr.size hsz, fun k hk hn => (hbw k (by omega)).trans (h.fr.block k hk hn)⟩
  · rcases hv3 with e | e
    · exact h2 k (e ▸ hk) hh
    · rw [e] at hk; have := Option.some.inj hk; have := (h1.lt hh).2; omega
  · have e : outsCells (os ++ [x]) = outsCells os ++ [.int .i64 x.val, .string x.script] := by simp [outsCells, outRow]
    rw [e, List.length_append]
    exact ownsRow_other hown3 _ _ (fun e => by have := (hown3.lt Y e).1; omega)
  · rcases List.mem_append.1 hy with hy | hy
    · exact h.outs.ok y hy
    · rw [List.mem_singleton.1 hy]; exact hx
/-- An In's witness, of texts in a new row. -/
theorem RD.wit {i N : Nat} {x : PIn} {wv : Value} {l' : List ByteArray} (h : RD w b X Y s ver z vi vo xs os wr) (hi : xs[i]? = some x) (ha : RdAt b s z' w') (hf : Fr [b] wr w') (hN : N = wr.heap.size)
    (hrow : w'.ownsRow N 9 1 wv l'.length (strCells l')) (hok : okStrs l') :
    ∃ b0 c v0, vi = .slice (some ⟨b0, 0, none⟩) xs.length c ∧ w'.cell? ⟨b0, i * 4 + 3, none⟩ = some v0 ∧ w'.frozen? ⟨b0, i * 4 + 3, none⟩ = false ∧
      RD w b X Y s ver z' vi vo (xs.set i { x with wit := l' }) os (w'.setCell ⟨b0, i * 4 + 3, none⟩ wv) := by
  have hc := h.call ha hf
  subst hN
  obtain ⟨ps, rfl, h1, h2⟩ := h.ins
  have h1' : InsOwn (Y + 1) w' vi ps := h1.kept fun k hk => hf.block k (h1.lt hk).2 (by have := (h1.lt hk).1; have := h.num; simp; omega)
  rw [List.getElem?_map] at hi
  obtain ⟨⟨y, v0⟩, hp, rfl⟩ := Option.map_eq_some_iff.1 hi
  obtain ⟨a, c, rfl, hc1, hc2⟩ := ownsRow_shape h1.row
  obtain ⟨b0, rfl, hb1, hb2, e0, e1, e2, e3⟩ := h1'.at hp
  have hyl := h.ylt
  have hnum := h.num
  have hfresh : ∀ G, wv.ownBlock = some G → wr.heap.size ≤ G := fun G e => (hrow.lt G e).1
  have hokx := h1.ok i _ hp
  have hset := h1'.set (p' := ({ y with wit := l' }, wv)) hp 3 wv (by omega) rfl (ownsRow_base hrow (by omega)) ⟨hokx.id, hokx.idx, hokx.seq, hok⟩ (by
    cases e : wv.ownBlock with
    | none => exact .inr (.inl rfl)
    | some G => exact .inr (.inr ⟨G, rfl, fun hh => by have := (h1.lt hh).2; have := hfresh G e; omega⟩))
  have hb0 : b0 < wr.heap.size := (h1.lt (.inl rfl)).2
  have hsc : ∀ k, k ≠ b0 → (w'.setCell ⟨b0, i * 4 + 3, none⟩ wv).heap[k]? = w'.heap[k]? := fun k hk => Below.heap_setCell _ _ _ _ hk
  refine ⟨b0, c, v0, by rw [List.length_map], e3, ownsRow_free h1'.row _, ?_⟩
  refine ⟨(hsc b (by omega)).trans ha, frY hc.fr (by omega) _ _, (hsc X (by omega)).trans hc.x, (hsc Y (by omega)).trans hc.y, ⟨_, (List.map_set (f := Prod.fst) (l := ps) (i := i) (a := ({ y with wit := l' }, wv))).symm, hset, fun k hk hh => ?_⟩, hc.outs.kept fun k hk => hsc k fun e => h2 k hk (.inl (by rw [e]; rfl)), hnum⟩
  have hko := (h.outs.row.lt k hk).2
  rcases hh with hh | ⟨j, q, hq, hh⟩
  · exact h2 k hk (.inl hh)
  · by_cases hij : i = j
    · subst hij
      rw [List.getElem?_set_self (List.getElem?_eq_some_iff.1 hp).1] at hq
      obtain rfl := Option.some.inj hq
      have := hfresh k hh
      omega
    · rw [List.getElem?_set_ne hij] at hq
      exact h2 k hk (.inr ⟨j, q, hq, hh⟩)
end
end Go.Proofs.Ytmcknjldimnaoaa
end

section
/-
  The program's reader reads a transaction. Conditions: those of read_any.
-/
namespace Go.Proofs.Ytmcknjldimnaoaa
open Go.RowKit Go.BigFrame
set_option linter.unusedVariables false
set_option linter.unusedSimpArgs false

/-- A call by its contract, as one step of a region that draws. -/
theorem step_call_any {P : Program} {ops : Array Oper} {o : Oper} {a : Act} {w : World} {K : Act → World → Prop} {Q : Exit → Act → World → Prop} {E : Prop} {f : FuncId} {args : Array Value} {R : Ending → World → Prop} (hg : o.guard = none)
    (hrun : (execOp a.eval o).run P w = .ok (.enter f args) w) (hc : Calls P f args w R) (hR : ∀ e w', R e w' → ∃ v, e = .returned v ∧ K (a.put o.dst v) w') :
    if Region.wanted o (yielded ops a.tmps) = true then Oper.wp P o a w K Q else E := by
  have hw : Region.wanted o (yielded ops a.tmps) = true := by simp [Region.wanted, hg]
  rw [if_pos hw]
  unfold Oper.wp
  rw [hrun]
  refine hc.mono ?_
  intro e w' h
  obtain ⟨v, rfl, hk⟩ := hR e w' h
  exact hk
theorem textZ_le (n : Nat) (l : List UInt8) (z : Zst) : (textZ n l z).2.size ≤ n := by
  unfold textZ
  split
  · rw [bL_size]; exact Nat.zero_le _
  · split
    · rw [bL_size]; exact Nat.zero_le _
    · dsimp only; rw [bL_size]; unfold pt; rw [List.length_take]; omega
theorem inZ_ok (l : List UInt8) (z : Zst) : OkIn (inZ l z).2 ∧ (inZ l z).2.wit = [] := by
  refine ⟨⟨?_, ?_, ?_, ?_⟩, rfl⟩
  · have := textZ_le 32 l z
    rw [maxLen_eq]
    show (textZ 32 l z).2.size ≤ _
    omega
  · have := numZ_le 4 4294967295 3 l (textZ 32 l z).1
    show (numZ 4 4294967295 3 l (textZ 32 l z).1).2 < _
    omega
  · have := numZ_le 4 4294967295 3 l (cntZ 0 0 4 l (numZ 4 4294967295 3 l (textZ 32 l z).1).1).1
    show (numZ 4 4294967295 3 l (cntZ 0 0 4 l (numZ 4 4294967295 3 l (textZ 32 l z).1).1).1).2 < _
    omega
  · exact fun s hs => by cases hs
theorem outZ_ok (l : List UInt8) (z : Zst) : OkOut (outZ l z).2 := by
  refine ⟨?_, ?_⟩
  · have := numZ_le 8 2100000000000000 3 l z
    show -9223372036854775808 ≤ (((numZ 8 2100000000000000 3 l z).2 : Nat) : Int) ∧ (((numZ 8 2100000000000000 3 l z).2 : Nat) : Int) ≤ _
    omega
  · rw [maxLen_eq]
    have h1 := cntZ_le 0 40 20 l (numZ 8 2100000000000000 3 l z).1
    have h2 := textZ_le (cntZ 0 40 20 l (numZ 8 2100000000000000 3 l z).1).2 l (cntZ 0 40 20 l (numZ 8 2100000000000000 3 l z).1).1
    show (textZ (cntZ 0 40 20 l (numZ 8 2100000000000000 3 l z).1).2 l (cntZ 0 40 20 l (numZ 8 2100000000000000 3 l z).1).1).2.size ≤ _
    omega

theorem repZ_all {α : Type} {F : Prs α} {l : List UInt8} {P : α → Prop} (h : ∀ z, P (F l z).2) (z : Zst) : ∀ n, ∀ x ∈ (repZ F n l z).2, P x
  | 0, x, hx => by cases hx
  | n + 1, x, hx => by
    have hx' : x ∈ (repZ F n l z).2 ++ [(F l (repZ F n l z).1).2] := hx
    rcases List.mem_append.1 hx' with hx | hx
    · exact repZ_all h z n x hx
    · rw [List.mem_singleton.1 hx]; exact h _
theorem item_le (l : List UInt8) (z : Zst) : (itemZ l z).2.size ≤ 80 := by
  have h1 := cntZ_le 0 80 20 l z
  have h2 := textZ_le (cntZ 0 80 20 l z).2 l (cntZ 0 80 20 l z).1
  show (textZ (cntZ 0 80 20 l z).2 l (cntZ 0 80 20 l z).1).2.size ≤ 80
  omega
theorem witZ_ok (l : List UInt8) (z : Zst) : okStrs (witZ l z).2 := by
  intro x hx
  have h := repZ_all (P := fun x : ByteArray => x.size ≤ 80) (item_le l) (cntZ 0 4 6 l z).1 (cntZ 0 4 6 l z).2 x hx
  rw [maxLen_eq]; omega
/-- The first k witnesses are set. -/
def wdone (k : Nat) (xs : List PIn) (ws : List (List ByteArray)) : List PIn := setW (xs.take k) ws ++ xs.drop k
theorem setW_len (xs : List PIn) (ws : List (List ByteArray)) (h : ws.length = xs.length) : (setW xs ws).length = xs.length := by
  unfold setW; rw [List.length_zipWith]; omega
theorem setW_snoc : ∀ (xs : List PIn) (ws : List (List ByteArray)) (x : PIn) (v : List ByteArray), ws.length = xs.length → setW (xs ++ [x]) (ws ++ [v]) = setW xs ws ++ [{ x with wit := v }]
  | [], [], x, v, _ => rfl
  | y :: xs, u :: ws, x, v, h => by
    have := setW_snoc xs ws x v (by simpa using h)
    simp only [setW, List.cons_append, List.zipWith_cons_cons] at this ⊢
    rw [this]
theorem wdone_zero (xs : List PIn) : wdone 0 xs [] = xs := by simp [wdone, setW]
theorem wdone_len {k : Nat} {xs : List PIn} {ws : List (List ByteArray)} (hk : k ≤ xs.length) (h : ws.length = k) : (wdone k xs ws).length = xs.length := by
  unfold wdone
  rw [List.length_append, setW_len _ _ (by rw [List.length_take]; omega), List.length_take, List.length_drop]
  omega
theorem wdone_at {k : Nat} {xs : List PIn} {ws : List (List ByteArray)} {x : PIn} (hx : xs[k]? = some x) (h : ws.length = k) : (wdone k xs ws)[k]? = some x := by
  have hk := (List.getElem?_eq_some_iff.1 hx).1
  have hl : (setW (xs.take k) ws).length = k := by rw [setW_len _ _ (by rw [List.length_take]; omega), List.length_take]; omega
  unfold wdone
  rw [List.getElem?_append_right (by omega), hl, Nat.sub_self, List.getElem?_drop]
  exact hx
theorem wdone_set {k : Nat} {xs : List PIn} {ws : List (List ByteArray)} {x : PIn} {v : List ByteArray} (hx : xs[k]? = some x) (h : ws.length = k) : (wdone k xs ws).set k { x with wit := v } = wdone (k + 1) xs (ws ++ [v]) := by
  have hk := (List.getElem?_eq_some_iff.1 hx).1
  have hl : (setW (xs.take k) ws).length = k := by rw [setW_len _ _ (by rw [List.length_take]; omega), List.length_take]; omega
  unfold wdone
  rw [List.set_append_right _ _ (by omega), hl, Nat.sub_self, List.take_add_one, hx, List.drop_eq_getElem_cons hk]
  rw [show xs[k] = x from (List.getElem?_eq_some_iff.1 hx).2]
  simp only [List.set_cons_zero, Option.toList_some]
  rw [setW_snoc _ _ _ _ (by rw [List.length_take]; omega), List.append_assoc]
  rfl
theorem wdone_all {xs : List PIn} {ws : List (List ByteArray)} {k : Nat} (h : k = xs.length) : wdone k xs ws = setW xs ws := by
  subst h
  unfold wdone
  rw [List.take_length, List.drop_length, List.append_nil]
theorem setW_wits : ∀ (xs : List PIn) (ws : List (List ByteArray)), ws.length = xs.length → (setW xs ws).map (·.wit) = ws
  | [], [], _ => rfl
  | x :: xs, v :: ws, h => by
    have := setW_wits xs ws (by simpa using h)
    simp only [setW, List.zipWith_cons_cons, List.map_cons] at this ⊢
    rw [this]
theorem RD.at {w wr : World} {b X Y ver : Nat} {s : ByteArray} {z : Zst} {vi vo : Value} {xs : List PIn} {os : List POut} (h : RD w b X Y s ver z vi vo xs os wr) {i : Nat} {x : PIn} (hi : xs[i]? = some x) : ∃ b0 c, vi = .slice (some ⟨b0, 0, none⟩) xs.length c := by
  obtain ⟨ps, rfl, h1, -⟩ := h.ins
  obtain ⟨a, c, rfl, -, -⟩ := ownsRow_shape h1.row
  obtain ⟨b, rfl, -, -⟩ := ownsRow_some h1.row (by have := (List.getElem?_eq_some_iff.1 hi).1; rw [List.length_map] at this; omega)
  exact ⟨b, c, by rw [List.length_map]⟩
theorem TxOwn.kept' {base : Nat} {w w' : World} {v : Value} {t : PTx} (h : TxOwn base w v t) (hk : ∀ b, base ≤ b → b < w.heap.size → w'.heap[b]? = w.heap[b]?) : TxOwn base w' v t := by
  obtain ⟨⟨vi, vo, ps, rfl, hp, h1, h2, h3⟩, h4, h5⟩ := h
  exact ⟨⟨vi, vo, ps, rfl, hp, h1.kept fun b hb => hk b (h1.lt hb).1 (h1.lt hb).2, h2.kept fun b hb => hk b (h2.row.lt b hb).1 (h2.row.lt b hb).2, h3⟩, h4, h5⟩

theorem endZ_lt {l : List UInt8} {z : Zst} (h : z.at_ < l.length) : endZ l z = failZ z 4 := by
  unfold endZ failZ
  by_cases he : z.err = 0
  · rw [if_pos ⟨h, he⟩, if_pos he]
  · rw [if_neg (fun hh => he hh.2), if_neg he]
theorem endZ_ge {l : List UInt8} {z : Zst} (h : ¬ z.at_ < l.length) : endZ l z = z := by
  unfold endZ
  rw [if_neg (fun hh => h hh.1)]

set_option maxRecDepth 100000 in
set_option maxHeartbeats 4000000 in
theorem read_any (b : Nat) (s : ByteArray) (w : World) (h : RdAt b s ⟨0, 0⟩ w) (hs : s.size ≤ 9223372036854775000) :
    Calls Try.prog 46 #[.pointer (some ⟨b, 0, none⟩)] w (fun e w' => ∃ v, e = .returned v ∧ TxOwn w.heap.size w' v (txOf (allZ s.data.toList ⟨0, 0⟩).2) ∧ RdAt b s (endZ s.data.toList (allZ s.data.toList ⟨0, 0⟩).1) w' ∧ Fr [b] w w') := by
  have HA := Lib.hid h
  have hbl := h.lt
  obtain ⟨z1, ver, hz1⟩ : ∃ q1 q2, numZ 4 4294967295 3 s.data.toList ⟨0, 0⟩ = (q1, q2) := ⟨_, _, rfl⟩
  obtain ⟨z2, mk, hz2⟩ : ∃ q1 q2, markZ s.data.toList z1 = (q1, q2) := ⟨_, _, rfl⟩
  obtain ⟨z3, n, hz3⟩ : ∃ q1 q2, cntZ 1 256 6 s.data.toList z2 = (q1, q2) := ⟨_, _, rfl⟩
  obtain ⟨z4, xs, hz4⟩ : ∃ q1 q2, repZ inZ n s.data.toList z3 = (q1, q2) := ⟨_, _, rfl⟩
  obtain ⟨z5, m, hz5⟩ : ∃ q1 q2, cntZ 1 256 6 s.data.toList z4 = (q1, q2) := ⟨_, _, rfl⟩
  obtain ⟨z6, os, hz6⟩ : ∃ q1 q2, repZ outZ m s.data.toList z5 = (q1, q2) := ⟨_, _, rfl⟩
  obtain ⟨z7, ws, hz7⟩ : ∃ q1 q2, wsZ (mk, xs) s.data.toList z6 = (q1, q2) := ⟨_, _, rfl⟩
  obtain ⟨z8, lock, hz8⟩ : ∃ q1 q2, numZ 4 4294967295 3 s.data.toList z7 = (q1, q2) := ⟨_, _, rfl⟩
  have hr : allZ s.data.toList ⟨0, 0⟩ = (z8, (ver, (mk, xs), os, ws, lock)) := by
    unfold allZ miZ insZ outsZ cntRep mapZ seqZ
    rw [hz1]; dsimp only; rw [hz2]; dsimp only; rw [hz3]; dsimp only; rw [hz4]; dsimp only; rw [hz5]; dsimp only; rw [hz6]; dsimp only; rw [hz7]; dsimp only; rw [hz8]
  rw [hr]
  have k1 := (numZ_psr 4 4294967295 3 (by decide)).le' (s := s) (z := ⟨0, 0⟩) (Nat.zero_le _)
  rw [hz1] at k1
  have k2 : z2.at_ ≤ s.size := by
    by_cases he : z1.err = 0
    · have := (mark_bound s.data.toList z1 he (by rw [data_len]; exact k1)).2
      rw [hz2, data_len] at this
      exact this
    · have := mark_stay s.data.toList z1 he
      rw [hz2] at this
      have : z2 = z1 := congrArg Prod.fst this
      rw [this]; exact k1
  have k3 := (cntZ_psr 1 256 6 (by decide) (by decide)).le' (s := s) k2
  rw [hz3] at k3
  have k4 := (inZ_psr.rep n).le' (s := s) k3
  rw [hz4] at k4
  have k5 := (cntZ_psr 1 256 6 (by decide) (by decide)).le' (s := s) k4
  rw [hz5] at k5
  have k6 := (outZ_psr.rep m).le' (s := s) k5
  rw [hz6] at k6
  have k7 := (wsZ_psr (mk, xs)).le' (s := s) k6
  rw [hz7] at k7
  have k8 := (numZ_psr 4 4294967295 3 (by decide)).le' (s := s) k7
  rw [hz8] at k8
  dsimp only at k1 k2 k3 k4 k5 k6 k7 k8
  have hver := numZ_le 4 4294967295 3 s.data.toList ⟨0, 0⟩
  rw [hz1] at hver
  have hlk := numZ_le 4 4294967295 3 s.data.toList z7
  rw [hz8] at hlk
  have hn := cntZ_le 1 256 6 s.data.toList z2
  rw [hz3] at hn
  have hm := cntZ_le 1 256 6 s.data.toList z4
  rw [hz5] at hm
  have hxl := repZ_len inZ s.data.toList z3 n
  rw [hz4] at hxl
  have hol := repZ_len outZ s.data.toList z5 m
  rw [hz6] at hol
  dsimp only at hver hlk hn hm hxl hol
  have q1 : ∀ y, RdAt b s ⟨0, 0⟩ y → _ := fun y hy => four_any b s ⟨0, 0⟩ y hy hs (Nat.zero_le _)
  have q2 : ∀ y, RdAt b s z1 y → _ := fun y hy => marker_any b s z1 y hy hs k1
  have q3 : ∀ y, RdAt b s z2 y → _ := fun y hy => count_any b s z2 1 256 6 y hy hs k2 (by decide) (by decide) (by decide)
  have q5 : ∀ y, RdAt b s z4 y → _ := fun y hy => count_any b s z4 1 256 6 y hy hs k4 (by decide) (by decide) (by decide)
  have q8 : ∀ y, RdAt b s z7 y → _ := fun y hy => four_any b s z7 y hy hs k7
  simp only [hz1] at q1
  simp only [hz2] at q2
  simp only [hz3] at q3
  simp only [hz5] at q5
  simp only [hz8] at q8
  have Q1 := Lib.hid q1
  have Q2 := Lib.hid q2
  have Q3 := Lib.hid q3
  have Q5 := Lib.hid q5
  have Q8 := Lib.hid q8
  have HZ4 := Lib.hid hz4
  have HZ6 := Lib.hid hz6
  have HZ7 := Lib.hid hz7
  have HK := Lib.hid (And.intro hs (And.intro k3 (And.intro k5 (And.intro k6 k8))))
  have HV := Lib.hid (And.intro hver hlk)
  have HXL := Lib.hid (And.intro hxl hol)
  clear h hr hz1 hz2 hz3 hz4 hz5 hz6 hz7 hz8 k1 k2 k3 k4 k5 k6 k7 k8 q1 q2 q3 q5 q8 hver hlk hs hxl hol
  go_enter Try.func46, Try.ntmps46
  go_upto_region 1 with fail
  have hz := heap_alloc_new w (.cells #[.int .u32 0, .slice none 0 0, .slice none 0 0, .int .u32 0] 26)
  have hal : Below w.heap.size w (w.alloc (.cells #[.int .u32 0, .slice none 0 0, .slice none 0 0, .int .u32 0] 26)) := (Below.refl _ _).alloc (Nat.le_refl _) _
  obtain ⟨X, hX⟩ : ∃ q, q = w.heap.size := ⟨_, rfl⟩
  rw [← hX] at hz ⊢
  generalize w.alloc (.cells #[.int .u32 0, .slice none 0 0, .slice none 0 0, .int .u32 0] 26) = w0 at *
  have HA := Lib.hid (HA.out.below hal)
  have HF := Lib.hid (Fr.bel (b := b) hal)
  have HX := Lib.hid hz
  have HN := Lib.hid (And.intro hX hbl)
  clear hz hal hX hbl
  go_wp2_with fail
  refine (Q1.out _ HA.out).mono ?_
  rintro e w1 ⟨rfl, ha, hf⟩
  have HA := Lib.hid ha
  have HX := Lib.hid (hf.heap HX.out (by have := HN.out; simp; omega))
  have HF := Lib.hid (HF.out.trans' hf)
  clear ha hf Q1
  go_upto_region 2 with fail
  have hz := heap_alloc_new w1 (.cells #[.int .u32 ver, .slice none 0 0, .slice none 0 0, .int .u32 0] 26)
  have hal : Below w1.heap.size w1 (w1.alloc (.cells #[.int .u32 ver, .slice none 0 0, .slice none 0 0, .int .u32 0] 26)) := (Below.refl _ _).alloc (Nat.le_refl _) _
  obtain ⟨Y, hY⟩ : ∃ q, q = w1.heap.size := ⟨_, rfl⟩
  rw [← hY] at hz ⊢
  generalize w1.alloc (.cells #[.int .u32 ver, .slice none 0 0, .slice none 0 0, .int .u32 0] 26) = w2 at *
  have hrd : RD w b X Y s ver z1 (.slice none 0 0) (.slice none 0 0) [] [] w2 :=
    ⟨HA.out.below hal, HF.out.trans' (Fr.bel hal), (hal.block X (Array.getElem?_eq_some_iff.1 HX.out).1).trans HX.out, hz, ⟨[], rfl, insOwn_nil _ _, fun k e => by cases e⟩, outsOwn_nil _ _,
      by have := HN.out; have := (Array.getElem?_eq_some_iff.1 HX.out).1; omega⟩
  have HRD := Lib.hid hrd
  clear hrd hz hal hY HA HF HX HN
  go_wp2_with fail
  refine (Q2.out _ HRD.out.rd).mono ?_
  rintro e w3 ⟨rfl, ha, hf⟩
  have HRD := Lib.hid (HRD.out.call ha hf)
  clear ha hf Q2
  go_wp2_with fail
  refine (Q3.out _ HRD.out.rd).mono ?_
  rintro e w4 ⟨rfl, ha, hf⟩
  have HRD := Lib.hid (HRD.out.call ha hf)
  clear ha hf Q3
  go_wp2_with fail
  go_loopg [14] n (fun g vi wr => ∃ (k : Nat) (va : Value), g = n - k ∧ k ≤ n ∧ vi = .int .i64 k ∧ RD w b X Y s ver (repZ inZ k s.data.toList z3).1 va (.slice none 0 0) (repZ inZ k s.data.toList z3).2 [] wr)
  case atStart => exact ⟨0, _, rfl, by omega, rfl, HRD.out⟩
  case round =>
    clear HRD
    rename World => wr
    obtain ⟨k, va, hgk, hk, rfl, hrd⟩ := hrel
    have HGK := Lib.hid hgk
    by_cases hlt : k < n
    · obtain ⟨zk, xk, hzk⟩ : ∃ q1 q2, repZ inZ k s.data.toList z3 = (q1, q2) := ⟨_, _, rfl⟩
      obtain ⟨z', x', hz'⟩ : ∃ q1 q2, inZ s.data.toList zk = (q1, q2) := ⟨_, _, rfl⟩
      have hst : repZ inZ (k + 1) s.data.toList z3 = (z', xk ++ [x']) := by
        show ((inZ s.data.toList (repZ inZ k s.data.toList z3).1).1, _ ++ [(inZ s.data.toList (repZ inZ k s.data.toList z3).1).2]) = _
        rw [hzk]
        dsimp only
        rw [hz']
      have kk := (inZ_psr.rep k).le' (s := s) HK.out.2.1
      rw [hzk] at kk hrd
      have hxk := repZ_len inZ s.data.toList z3 k
      rw [hzk] at hxk
      dsimp only at kk hrd hxk
      have hok := inZ_ok s.data.toList zk
      rw [hz'] at hok
      dsimp only at hok
      have q : ∀ y, RdAt b s zk y → _ := fun y hy => in_any b s zk y hy HK.out.1 kk
      simp only [hz', inV] at q
      have QI := Lib.hid q
      have HST := Lib.hid hst
      have HOK := Lib.hid hok
      obtain ⟨a, c, rfl, -, -⟩ := hrd.ilen
      rw [hxk] at hrd
      have y1 : wr.cell? ⟨Y, 1, none⟩ = some (.slice a k c) := cell_at hrd.y
      have HRD := Lib.hid hrd
      clear hst hzk hz' kk hxk hok q hrd hgk
      go_upto_block 1 with fail
      go_cut [] (fun wx => ∃ va', RD w b X Y s ver z' va' (.slice none 0 0) (xk ++ [x']) [] wx)
      case first =>
        go_upto_region 5 with fail
        go_region_law (first
          | (refine step_call_any rfl (f := 75) (args := #[.pointer (some ⟨b, 0, none⟩)]) (by kernel_rfl) (QI.out _ HRD.out.rd) ?_; rintro e wc ⟨rfl, ha, hf⟩; refine ⟨_, rfl, ?_⟩; have hrd2 := HRD.out.call (z' := z') ha ((Fr.drew [b] wr).trans' hf); have y1' : wc.cell? ⟨Y, 1, none⟩ = some (.slice a k c) := cell_at hrd2.y; have y1a : ∀ o, (wc.alloc o).cell? ⟨Y, 1, none⟩ = some (.slice a k c) := fun o => cell_over y1' o; obtain ⟨a2, c2, wd, hrun, hy2, hfin⟩ := hrd2.addIn (by omega) x' HOK.out.2 HOK.out.1; have y2 : wd.cell? ⟨Y, 1, none⟩ = some (.slice a k c) := cell_at (hy2.trans hrd2.y); have g2 : wd.frozen? ⟨Y, 1, none⟩ = false := free_at (hy2.trans hrd2.y); have HR := Lib.hid hrun; have HFI := Lib.hid hfin; have HRD2 := Lib.hid hrd2; clear hrun hfin hy2 hrd2 ha hf)
          | (refine step_append_run rfl (.tmp 17) (.tmp 20) 23 23 rfl rfl rfl HR.out ?_))
        all_goals (go_wp2_with fail; go_meet; exact ⟨_, HFI.out⟩)
      case rest =>
        obtain ⟨va', hrd⟩ := hcut
        have HRD := Lib.hid hrd
        clear hrd y1
        go_wp2_with fail
        go_roundg (n - (k + 1))
        case measure => have := HGK.out; omega
        case rel => exact ⟨k + 1, va', rfl, by omega, by go_num, by rw [HST.out]; exact HRD.out⟩
    · obtain rfl : k = n := by omega
      rw [HZ4.out] at hrd
      have HRD := Lib.hid hrd
      clear hrd hgk
      go_wp2_with fail
      refine (Q5.out _ HRD.out.rd).mono ?_
      rintro e w5 ⟨rfl, ha, hf⟩
      have HRD := Lib.hid (HRD.out.call ha hf)
      clear ha hf Q5
      go_wp2_with fail
      go_loopg [26] m (fun g vi wr => ∃ (j : Nat) (vo : Value), g = m - j ∧ j ≤ m ∧ vi = .int .i64 j ∧ RD w b X Y s ver (repZ outZ j s.data.toList z5).1 va vo xs (repZ outZ j s.data.toList z5).2 wr)
      case atStart => exact ⟨0, _, rfl, by omega, rfl, HRD.out⟩
      case round =>
        clear HRD
        rename World => wr
        obtain ⟨j, vo, hgk, hj, rfl, hrd⟩ := hrel
        have HGJ := Lib.hid hgk
        by_cases hlt : j < m
        · obtain ⟨zk, xk, hzk⟩ : ∃ q1 q2, repZ outZ j s.data.toList z5 = (q1, q2) := ⟨_, _, rfl⟩
          obtain ⟨z', x', hz'⟩ : ∃ q1 q2, outZ s.data.toList zk = (q1, q2) := ⟨_, _, rfl⟩
          have hst : repZ outZ (j + 1) s.data.toList z5 = (z', xk ++ [x']) := by
            show ((outZ s.data.toList (repZ outZ j s.data.toList z5).1).1, _ ++ [(outZ s.data.toList (repZ outZ j s.data.toList z5).1).2]) = _
            rw [hzk]
            dsimp only
            rw [hz']
          have kk := (outZ_psr.rep j).le' (s := s) HK.out.2.2.1
          rw [hzk] at kk hrd
          have hxk := repZ_len outZ s.data.toList z5 j
          rw [hzk] at hxk
          dsimp only at kk hrd hxk
          have hok := outZ_ok s.data.toList zk
          rw [hz'] at hok
          dsimp only at hok
          have q : ∀ y, RdAt b s zk y → _ := fun y hy => out_any b s zk y hy HK.out.1 kk
          simp only [hz', outV] at q
          have QI := Lib.hid q
          have HST := Lib.hid hst
          have HOK := Lib.hid hok
          obtain ⟨a, c, rfl, -, -⟩ := hrd.olen
          rw [hxk] at hrd
          have y1 : wr.cell? ⟨Y, 2, none⟩ = some (.slice a j c) := cell_at hrd.y
          have HRD := Lib.hid hrd
          clear hst hzk hz' kk hxk hok q hrd hgk
          go_upto_block 3 with fail
          go_cut [] (fun wx => ∃ vo', RD w b X Y s ver z' va vo' xs (xk ++ [x']) wx)
          case first =>
            go_upto_region 9 with fail
            go_region_law (first
              | (refine step_call_any rfl (f := 76) (args := #[.pointer (some ⟨b, 0, none⟩)]) (by kernel_rfl) (QI.out _ HRD.out.rd) ?_; rintro e wc ⟨rfl, ha, hf⟩; refine ⟨_, rfl, ?_⟩; have hrd2 := HRD.out.call (z' := z') ha ((Fr.drew [b] wr).trans' hf); have y1' : wc.cell? ⟨Y, 2, none⟩ = some (.slice a j c) := cell_at hrd2.y; have y1a : ∀ o, (wc.alloc o).cell? ⟨Y, 2, none⟩ = some (.slice a j c) := fun o => cell_over y1' o; obtain ⟨a2, c2, wd, hrun, hy2, hfin⟩ := hrd2.addOut (by omega) x' HOK.out; have y2 : wd.cell? ⟨Y, 2, none⟩ = some (.slice a j c) := cell_at (hy2.trans hrd2.y); have g2 : wd.frozen? ⟨Y, 2, none⟩ = false := free_at (hy2.trans hrd2.y); have HR := Lib.hid hrun; have HFI := Lib.hid hfin; have HRD2 := Lib.hid hrd2; clear hrun hfin hy2 hrd2 ha hf)
              | (refine step_append_run rfl (.tmp 29) (.tmp 32) 24 24 rfl rfl rfl HR.out ?_))
            all_goals (go_wp2_with fail; go_meet; exact ⟨_, HFI.out⟩)
          case rest =>
            obtain ⟨vo', hrd⟩ := hcut
            have HRD := Lib.hid hrd
            clear hrd y1
            go_wp2_with fail
            go_roundg (m - (j + 1))
            case measure => have := HGJ.out; omega
            case rel => exact ⟨j + 1, vo', rfl, by omega, by go_num, by rw [HST.out]; exact HRD.out⟩
        · obtain rfl : j = m := by omega
          rw [HZ6.out] at hrd
          have HRD := Lib.hid hrd
          clear hrd hgk
          go_upto_if 36 with fail
          go_cut [] (fun wx => RD w b X Y s ver z7 va vo (if mk = true then setW xs ws else xs) os wx)
          case first =>
            by_cases hmk : mk = true
            · subst hmk
              have hz7 : witsZ xs.length s.data.toList z6 = (z7, ws) := HZ7.out
              obtain ⟨zw, ww, hzw⟩ : ∃ q1 q2, repZ witZ xs.length s.data.toList z6 = (q1, q2) := ⟨_, _, rfl⟩
              have hwl := repZ_len witZ s.data.toList z6 xs.length
              have hkw := (witZ_psr.rep xs.length).le' (s := s) HK.out.2.2.2.1
              unfold witsZ at hz7
              rw [hzw] at hz7 hwl hkw
              dsimp only at hz7 hwl hkw
              have hws : ww = ws := congrArg Prod.snd hz7
              subst hws
              have hzz : (if zw.err = 0 ∧ anyW ww = false then ⟨z6.at_, 4⟩ else zw) = z7 := congrArg Prod.fst hz7
              have HZZ := Lib.hid hzz
              have HZW := Lib.hid hzw
              have HWL := Lib.hid hwl
              have d1 : wr.cell? ⟨b, 1, none⟩ = some (.int .i64 z6.at_) := cell_at HRD.out.rd
              obtain ⟨a, c, rfl, -, -⟩ := HRD.out.ilen
              rw [HXL.out.1] at HRD
              have y1 : wr.cell? ⟨Y, 1, none⟩ = some (.slice a k c) := cell_at HRD.out.y
              have HRW := Lib.hid (show RD w b X Y s ver (repZ witZ 0 s.data.toList z6).1 (.slice a k c) vo (wdone 0 xs (repZ witZ 0 s.data.toList z6).2) os wr by
                have h1 : repZ witZ 0 s.data.toList z6 = (z6, []) := rfl
                rw [h1]; dsimp only; rw [wdone_zero]; exact HRD.out)
              clear hz7 hzz hzw hwl hkw HRD
              go_wp2_with fail
              go_loopg [44] k (fun g vi wq => ∃ i : Nat, g = k - i ∧ i ≤ k ∧ vi = .int .i64 i ∧ RD w b X Y s ver (repZ witZ i s.data.toList z6).1 (.slice a k c) vo (wdone i xs (repZ witZ i s.data.toList z6).2) os wq)
              case atStart => exact ⟨0, rfl, by omega, rfl, HRW.out⟩
              case round =>
                clear HRW y1 d1
                rename World => wq
                obtain ⟨i, hgk, hik, rfl, hrd⟩ := hrel
                have HGI := Lib.hid hgk
                have hwl := repZ_len witZ s.data.toList z6 i
                by_cases hlt : i < k
                · obtain ⟨zk, wk, hzk⟩ : ∃ q1 q2, repZ witZ i s.data.toList z6 = (q1, q2) := ⟨_, _, rfl⟩
                  obtain ⟨z', v', hz'⟩ : ∃ q1 q2, witZ s.data.toList zk = (q1, q2) := ⟨_, _, rfl⟩
                  have hst : repZ witZ (i + 1) s.data.toList z6 = (z', wk ++ [v']) := by
                    show ((witZ s.data.toList (repZ witZ i s.data.toList z6).1).1, _ ++ [(witZ s.data.toList (repZ witZ i s.data.toList z6).1).2]) = _
                    rw [hzk]
                    dsimp only
                    rw [hz']
                  have kk := (witZ_psr.rep i).le' (s := s) HK.out.2.2.2.1
                  rw [hzk] at kk hrd hwl
                  dsimp only at kk hrd hwl
                  have hok := witZ_ok s.data.toList zk
                  rw [hz'] at hok
                  dsimp only at hok
                  have q : ∀ y, RdAt b s zk y → _ := fun y hy => witness_any b s zk y hy HK.out.1 kk
                  simp only [hz'] at q
                  obtain ⟨x, hx⟩ : ∃ x, xs[i]? = some x := ⟨_, List.getElem?_eq_getElem (by have := HXL.out.1; omega)⟩
                  have hat := wdone_at hx hwl
                  obtain ⟨b0, c0, e0⟩ := hrd.at hat
                  rw [wdone_len (by have := HXL.out.1; omega) hwl, HXL.out.1] at e0
                  obtain ⟨rfl, rfl⟩ : a = some ⟨b0, 0, none⟩ ∧ c = c0 := by simpa using e0
                  have hset := wdone_set (v := v') hx hwl
                  have QI := Lib.hid q
                  have HST := Lib.hid hst
                  have HOK := Lib.hid hok
                  have HAT := Lib.hid hat
                  have HSE := Lib.hid hset
                  have y1 : wq.cell? ⟨Y, 1, none⟩ = some (.slice (some ⟨b0, 0, none⟩) k c) := cell_at hrd.y
                  have HRD := Lib.hid hrd
                  have hi0 : (0 : Int) ≤ (i : Int) := by omega
                  have hi1 : (i : Int) < (k : Int) := by omega
                  clear hst hzk hz' kk hok q hrd hgk hx hat e0 hset hwl
                  go_upto_block 5 with fail
                  go_cut [] (fun wx => RD w b X Y s ver z' (.slice (some ⟨b0, 0, none⟩) k c) vo (wdone (i + 1) xs (wk ++ [v'])) os wx)
                  case first =>
                    go_upto_region 16 with fail
                    go_region_law (first
                      | (refine step_call_any rfl (f := 77) (args := #[.pointer (some ⟨b, 0, none⟩)]) (by kernel_rfl) (QI.out _ HRD.out.rd) ?_; rintro e wc ⟨v9, rfl, hrow, ha, hf⟩; obtain ⟨a9, c9, rfl, -, -⟩ := ownsRow_shape hrow; refine ⟨_, rfl, ?_⟩; have hfx : Fr [b] wq wc := (Fr.drew [b] wq).trans' hf; have y1' : wc.cell? ⟨Y, 1, none⟩ = some (.slice (some ⟨b0, 0, none⟩) k c) := cell_at (HRD.out.call ha hfx).y; obtain ⟨b1, c1, v0, e1, hc3, hf3, hfin⟩ := HRD.out.wit HAT.out ha hfx rfl hrow HOK.out; obtain rfl : b0 = b1 := (by simp at e1; exact e1.1); rw [HSE.out] at hfin; have HFI := Lib.hid hfin; clear hfin hrow ha hf hfx e1))
                    all_goals (go_wp2_with fail; go_meet; exact HFI.out)
                  case rest =>
                    have HRD := Lib.hid hcut
                    clear hcut y1
                    go_wp2_with fail
                    go_roundg (k - (i + 1))
                    case measure => have := HGI.out; omega
                    case rel => exact ⟨i + 1, rfl, by omega, by go_num, by rw [HST.out]; exact HRD.out⟩
                · obtain rfl : i = k := by omega
                  have hzw : repZ witZ i s.data.toList z6 = (zw, ww) := HXL.out.1 ▸ HZW.out
                  rw [hzw] at hrd hwl
                  dsimp only at hrd hwl
                  rw [wdone_all HXL.out.1.symm] at hrd
                  have HRD := Lib.hid hrd
                  have d1 : wq.cell? ⟨b, 1, none⟩ = some (.int .i64 zw.at_) := cell_at hrd.rd
                  have d2 : wq.cell? ⟨b, 2, none⟩ = some (.int .i64 zw.err) := cell_at hrd.rd
                  by_cases hze : zw.err = 0
                  · have hz2 := hrd.tx (by have := HV.out.1; omega)
                    have hwo : witOf ⟨ver, setW xs ww, os, 0⟩ = anyW ww := by
                      rw [← anyW_of]
                      show anyW ((setW xs ww).map (·.wit)) = _
                      rw [setW_wits xs ww (by have := HWL.out; omega)]
                    have HQ := Lib.hid (witnessed_any _ _ wq hz2)
                    rw [hwo] at HQ
                    obtain ⟨ao, co, rfl, -, -⟩ := hrd.olen
                    have y0 : wq.cell? ⟨Y, 0, none⟩ = some (.int .u32 ver) := cell_at hrd.y
                    have y1 : wq.cell? ⟨Y, 1, none⟩ = some (.slice a i c) := cell_at hrd.y
                    have y2 : wq.cell? ⟨Y, 2, none⟩ = some (.slice ao os.length co) := cell_at hrd.y
                    have y3 : wq.cell? ⟨Y, 3, none⟩ = some (.int .u32 0) := cell_at hrd.y
                    have HZE := Lib.hid hze
                    rw [hze] at d2
                    clear hz2 hwo hzw hrd hgk hwl hze d1
                    cases hany : anyW ww
                    · have HZ7' := Lib.hid (show (⟨z6.at_, 4⟩ : Zst) = z7 from (if_pos ⟨HZE.out, hany⟩).symm.trans HZZ.out)
                      rw [hany] at HQ
                      clear hany
                      go_wp2_with fail
                      refine HQ.out.mono ?_
                      rintro e wv ⟨rfl, hb⟩
                      have HRV := Lib.hid (HRD.out.below hb)
                      have d1 : wv.cell? ⟨b, 1, none⟩ = some (.int .i64 zw.at_) := cell_at HRV.out.rd
                      have g1 : wv.frozen? ⟨b, 1, none⟩ = false := free_at HRV.out.rd
                      clear hb HRD HQ
                      have hat := HRV.out.rd.setAt z6.at_
                      have HRU := Lib.hid (HRV.out.call hat (Fr.setCell wv ⟨b, 1, none⟩ (.int .i64 z6.at_) (by simp)))
                      clear hat
                      go_wp2_with fail
                      generalize wv.setCell ⟨b, 1, none⟩ (.int .i64 z6.at_) = wu at *
                      refine (fail_any b s _ 4 wu HRU.out.rd).mono ?_
                      rintro e wt ⟨rfl, ha, hf⟩
                      have HRT := Lib.hid (HRU.out.call ha hf)
                      have hfz : failZ ⟨z6.at_, zw.err⟩ 4 = ⟨z6.at_, 4⟩ := by unfold failZ; rw [HZE.out]; rfl
                      rw [hfz, HZ7'.out] at HRT
                      clear ha hf hfz HRU HRV
                      go_wp2_with fail
                      go_meet
                      have h9 := HRT.out
                      rw [← HXL.out.1] at h9
                      first | rw [if_pos trivial] | rw [if_pos rfl]
                      exact h9
                    · have HZ7' := Lib.hid (show zw = z7 from (if_neg (fun h => by rw [hany] at h; cases h.2)).symm.trans HZZ.out)
                      rw [hany] at HQ
                      clear hany
                      go_wp2_with fail
                      refine HQ.out.mono ?_
                      rintro e wv ⟨rfl, hb⟩
                      have HRV := Lib.hid (HRD.out.below hb)
                      rw [HZ7'.out] at HRV
                      clear hb HRD HQ
                      go_wp2_with fail
                      go_meet
                      have h9 := HRV.out
                      rw [← HXL.out.1] at h9
                      first | rw [if_pos trivial] | rw [if_pos rfl]
                      exact h9
                  · have HZ7' := Lib.hid (show zw = z7 from (if_neg (fun h => hze h.1)).symm.trans HZZ.out)
                    rw [HZ7'.out] at HRD
                    have hze1 : (zw.err == 0) = false := by simpa using hze
                    obtain ⟨er, her⟩ : ∃ er, er = zw.err := ⟨_, rfl⟩
                    rw [← her] at hze1 d2 hze
                    clear hrd hgk hwl hzw her d1
                    go_wp2_with fail
                    go_meet
                    have h9 := HRD.out
                    rw [← HXL.out.1] at h9
                    first | rw [if_pos trivial] | rw [if_pos rfl]
                    exact h9
            · have hmf : mk = false := by simpa using hmk
              subst hmf
              have hz7 : ((z6, []) : Zst × List (List ByteArray)) = (z7, ws) := HZ7.out
              have hz7a : z6 = z7 := congrArg Prod.fst hz7
              subst hz7a
              clear hz7
              go_wp2_with fail
              go_meet
              first | rw [if_neg not_false] | rw [if_neg (show ¬ (false = true) by simp)]
              exact HRD.out
          case rest =>
            rename World => wx
            obtain ⟨fin, hfin⟩ : ∃ f, f = if mk = true then setW xs ws else xs := ⟨_, rfl⟩
            rw [← hfin] at hcut
            have HTX := Lib.hid (show txOf (ver, (mk, xs), os, ws, lock) = ⟨ver, fin, os, lock⟩ by rw [hfin]; rfl)
            have HRD := Lib.hid hcut
            clear hcut hfin
            go_wp2_with fail
            refine (Q8.out _ HRD.out.rd).mono ?_
            rintro e w9 ⟨rfl, ha, hf⟩
            have hrd := HRD.out.call ha hf
            obtain ⟨a, c, rfl, -, -⟩ := hrd.ilen
            obtain ⟨ao, co, rfl, -, -⟩ := hrd.olen
            have hnum := hrd.num
            have hown := hrd.own (show ver < 4294967296 by have := HV.out.1; omega) lock (by have := HV.out.2; omega)
            have hown2 : TxOwn (Y + 1) (w9.setCell ⟨Y, 3, none⟩ (.int .u32 lock)) (.agg #[.int .u32 ver, .slice a fin.length c, .slice ao os.length co, .int .u32 lock]) ⟨ver, fin, os, lock⟩ :=
              hown.kept' fun k hk _ => Below.heap_setCell _ _ _ _ (by dsimp only; omega)
            have hy2 := heap_setCell_at (j := 3) (u := .int .u32 lock) hrd.y
            have hx2 := (Below.heap_setCell w9 ⟨Y, 3, none⟩ (.int .u32 lock) X (by dsimp only; omega)).trans hrd.x
            have hr2 : RdAt b s z8 (w9.setCell ⟨Y, 3, none⟩ (.int .u32 lock)) := (Below.heap_setCell w9 ⟨Y, 3, none⟩ (.int .u32 lock) b (by dsimp only; omega)).trans hrd.rd
            have hf2 := frY hrd.fr (show w.heap.size ≤ Y by omega) 3 (.int .u32 lock)
            have y3 : w9.cell? ⟨Y, 3, none⟩ = some (.int .u32 0) := cell_at hrd.y
            have g3 : w9.frozen? ⟨Y, 3, none⟩ = false := free_at hrd.y
            have HO := Lib.hid hown2
            have HY := Lib.hid hy2
            have HX := Lib.hid hx2
            have HR := Lib.hid hr2
            have HF := Lib.hid hf2
            have HNU := Lib.hid hnum
            clear hown hown2 hy2 hx2 hr2 hf2 hnum hrd ha hf HRD Q8
            go_upto_region 22 with fail
            generalize w9.setCell ⟨Y, 3, none⟩ (.int .u32 lock) = wz at *
            clear y3 g3
            have d0 : wz.cell? ⟨b, 0, none⟩ = some (.string s) := cell_at HR.out
            have d1 : wz.cell? ⟨b, 1, none⟩ = some (.int .i64 z8.at_) := cell_at HR.out
            have hat := HK.out.2.2.2.2
            have hatI : (z8.at_ : Int) ≤ (s.size : Int) := by omega
            obtain ⟨C, hC⟩ : ∃ C : World → Prop, C = fun w' => Below wz.heap.size wz w' := ⟨_, rfl⟩
            have kd0 := kin_cell hC d0
            have kd1 := kin_cell hC d1
            by_cases hlt : z8.at_ < s.size
            · have hltI : (z8.at_ : Int) < (s.size : Int) := by omega
              have HEZ := Lib.hid (endZ_lt (l := s.data.toList) (z := z8) (by rw [data_len]; exact hlt))
              clear hat
              have HC := Lib.hid hC
              clear hC
              refine wp_region_kin C (by kernel_rfl) (by kernel_rfl) (by rw [HC.out]; exact ⟨rfl, rfl, rfl, Nat.le_refl _, fun _ _ => rfl⟩) ?_
              intro hne
              repeat (first | (go_big_quiet_step (fail)) | (quiet_step (fail)))
              refine wpQuiet_nil ?_
              intro _ hw'
              obtain ⟨kx, hw''⟩ := hw'
              subst hw''
              obtain ⟨wk, hxc⟩ := kx
              rw [HC.out] at hxc
              clear HC hne kd0 kd1
              have HO := Lib.hid (HO.out.below hxc)
              have HX := Lib.hid ((hxc.block X (Array.getElem?_eq_some_iff.1 HX.out).1).trans HX.out)
              have HY := Lib.hid ((hxc.block Y (Array.getElem?_eq_some_iff.1 HY.out).1).trans HY.out)
              have HR := Lib.hid (HR.out.below hxc)
              have HF := Lib.hid (HF.out.trans' (Fr.bel (b := b) hxc))
              clear hxc d0 d1
              go_wp2_with fail
              refine (fail_any b s _ 4 wk HR.out).mono ?_
              rintro e wl ⟨rfl, ha, hf⟩
              have hxn : X ≠ b := by have := HNU.out; omega
              have hyn : Y ≠ b := by have := HNU.out; omega
              have HX := Lib.hid (hf.heap HX.out (by simpa using hxn))
              have HY := Lib.hid (hf.heap HY.out (by simpa using hyn))
              have HO := Lib.hid (HO.out.kept' fun k hk hkl => hf.block k hkl (by have := HNU.out; simp; omega))
              have HR := Lib.hid ha
              have HF := Lib.hid (HF.out.trans' hf)
              clear ha hf hxn hyn
              have y0 : wl.cell? ⟨Y, 0, none⟩ = some (.int .u32 ver) := cell_at HY.out
              have y1 : wl.cell? ⟨Y, 1, none⟩ = some (.slice a fin.length c) := cell_at HY.out
              have y2 : wl.cell? ⟨Y, 2, none⟩ = some (.slice ao os.length co) := cell_at HY.out
              have y3 : wl.cell? ⟨Y, 3, none⟩ = some (.int .u32 lock) := cell_at HY.out
              have x0 : wl.cell? ⟨X, 0, none⟩ = some (.int .u32 0) := cell_at HX.out
              have x1 : wl.cell? ⟨X, 1, none⟩ = some (.slice none 0 0) := cell_at HX.out
              have x2 : wl.cell? ⟨X, 2, none⟩ = some (.slice none 0 0) := cell_at HX.out
              have x3 : wl.cell? ⟨X, 3, none⟩ = some (.int .u32 0) := cell_at HX.out
              have f0 : wl.frozen? ⟨X, 0, none⟩ = false := free_at HX.out
              have f1 : wl.frozen? ⟨X, 1, none⟩ = false := free_at HX.out
              have f2 : wl.frozen? ⟨X, 2, none⟩ = false := free_at HX.out
              have f3 : wl.frozen? ⟨X, 3, none⟩ = false := free_at HX.out
              obtain ⟨-, c5⟩ := four_cells' HX.out (.int .u32 ver) (.slice a fin.length c) (.slice ao os.length co) (.int .u32 lock)
              have hfx := c5 [X] (by simp)
              have HFF := Lib.hid (fr_new ((fr_wide (X := X) (Y := X) HF.out).trans' (c5 [b, X, X] (by simp))) (by have := HNU.out; omega) (by have := HNU.out; omega))
              have HRR := Lib.hid (show RdAt b s (failZ z8 4) _ from (hfx.block b HR.out.lt (by have := HNU.out; simp; omega)).trans HR.out)
              have HOO := Lib.hid ((HO.out.kept' (fun k hk hkl => hfx.block k hkl (by have := HNU.out; simp; omega))).base (base' := w.heap.size) (by have := HNU.out; omega))
              clear c5 hfx HX HY
              go_wp2_with fail
              refine bodyPost_ret (v := .agg #[.int .u32 ver, .slice a fin.length c, .slice ao os.length co, .int .u32 lock]) (by simp [results, Try.results46, go_sem, x0, x1, x2, x3]) rfl ⟨_, rfl, by rw [HTX.out]; exact HOO.out, by rw [HEZ.out]; exact HRR.out, HFF.out⟩
            · have hltI : ¬ (z8.at_ : Int) < (s.size : Int) := by omega
              have HEZ := Lib.hid (endZ_ge (l := s.data.toList) (z := z8) (by rw [data_len]; exact hlt))
              clear hat
              have HC := Lib.hid hC
              clear hC
              refine wp_region_kin C (by kernel_rfl) (by kernel_rfl) (by rw [HC.out]; exact ⟨rfl, rfl, rfl, Nat.le_refl _, fun _ _ => rfl⟩) ?_
              intro hne
              repeat (first | (go_big_quiet_step (fail)) | (quiet_step (fail)))
              refine wpQuiet_nil ?_
              intro _ hw'
              obtain ⟨kx, hw''⟩ := hw'
              subst hw''
              obtain ⟨wl, hxc⟩ := kx
              rw [HC.out] at hxc
              clear HC hne kd0 kd1
              have HO := Lib.hid (HO.out.below hxc)
              have HX := Lib.hid ((hxc.block X (Array.getElem?_eq_some_iff.1 HX.out).1).trans HX.out)
              have HY := Lib.hid ((hxc.block Y (Array.getElem?_eq_some_iff.1 HY.out).1).trans HY.out)
              have HR := Lib.hid (HR.out.below hxc)
              have HF := Lib.hid (HF.out.trans' (Fr.bel (b := b) hxc))
              clear hxc d0 d1
              have y0 : wl.cell? ⟨Y, 0, none⟩ = some (.int .u32 ver) := cell_at HY.out
              have y1 : wl.cell? ⟨Y, 1, none⟩ = some (.slice a fin.length c) := cell_at HY.out
              have y2 : wl.cell? ⟨Y, 2, none⟩ = some (.slice ao os.length co) := cell_at HY.out
              have y3 : wl.cell? ⟨Y, 3, none⟩ = some (.int .u32 lock) := cell_at HY.out
              have x0 : wl.cell? ⟨X, 0, none⟩ = some (.int .u32 0) := cell_at HX.out
              have x1 : wl.cell? ⟨X, 1, none⟩ = some (.slice none 0 0) := cell_at HX.out
              have x2 : wl.cell? ⟨X, 2, none⟩ = some (.slice none 0 0) := cell_at HX.out
              have x3 : wl.cell? ⟨X, 3, none⟩ = some (.int .u32 0) := cell_at HX.out
              have f0 : wl.frozen? ⟨X, 0, none⟩ = false := free_at HX.out
              have f1 : wl.frozen? ⟨X, 1, none⟩ = false := free_at HX.out
              have f2 : wl.frozen? ⟨X, 2, none⟩ = false := free_at HX.out
              have f3 : wl.frozen? ⟨X, 3, none⟩ = false := free_at HX.out
              obtain ⟨-, c5⟩ := four_cells' HX.out (.int .u32 ver) (.slice a fin.length c) (.slice ao os.length co) (.int .u32 lock)
              have hfx := c5 [X] (by simp)
              have HFF := Lib.hid (fr_new ((fr_wide (X := X) (Y := X) HF.out).trans' (c5 [b, X, X] (by simp))) (by have := HNU.out; omega) (by have := HNU.out; omega))
              have HRR := Lib.hid (show RdAt b s z8 _ from (hfx.block b HR.out.lt (by have := HNU.out; simp; omega)).trans HR.out)
              have HOO := Lib.hid ((HO.out.kept' (fun k hk hkl => hfx.block k hkl (by have := HNU.out; simp; omega))).base (base' := w.heap.size) (by have := HNU.out; omega))
              clear c5 hfx HX HY
              go_wp2_with fail
              refine bodyPost_ret (v := .agg #[.int .u32 ver, .slice a fin.length c, .slice ao os.length co, .int .u32 lock]) (by simp [results, Try.results46, go_sem, x0, x1, x2, x3]) rfl ⟨_, rfl, by rw [HTX.out]; exact HOO.out, by rw [HEZ.out]; exact HRR.out, HFF.out⟩
end Go.Proofs.Ytmcknjldimnaoaa
end

section
/-
  wire.Decode. Conditions: the text is not too long.
-/
namespace Go.Proofs.Ytmcknjldimnaoaa
open Go.RowKit Go.BigFrame
set_option linter.unusedVariables false
set_option linter.unusedSimpArgs false

/-- It returns this transaction, of the call's own, this place and this error. -/
def DecIs (r : PTx × Nat × Int) (w : World) (e : Ending) (w' : World) : Prop := ∃ v, e = .returned (.tuple #[v, .int .i64 r.2.1, .int .i64 r.2.2]) ∧ TxOwn w.heap.size w' v r.1 ∧ Below w.heap.size w w'
theorem outs_le (l : List UInt8) (z : Zst) : (txOf (allZ l z).2).outs.length ≤ 256 := by
  have h : ∀ z, (outsZ l z).2.length ≤ 256 := fun z => by
    show (repZ outZ (cntZ 1 256 6 l z).2 l (cntZ 1 256 6 l z).1).2.length ≤ 256
    rw [repZ_len]
    exact cntZ_le 1 256 6 l z
  exact h _
theorem noTx_own (base : Nat) (w : World) : TxOwn base w (.agg #[.int .u32 (0 : Nat), .slice none 0 0, .slice none 0 0, .int .u32 (0 : Nat)]) noTx :=
  ⟨⟨_, _, [], rfl, rfl, insOwn_nil _ _, outsOwn_nil _ _, fun b h => by cases h⟩, by decide, by decide⟩

set_option maxRecDepth 100000 in
set_option maxHeartbeats 4000000 in
theorem decode_any (s : ByteArray) (w : World) (hs : s.size ≤ 9223372036854775000) : Calls Try.prog 27 #[.string s] w (DecIs (decZ s.data.toList) w) := by
  obtain ⟨t, ht⟩ : ∃ t, t = txOf (allZ s.data.toList ⟨0, 0⟩).2 := ⟨_, rfl⟩
  obtain ⟨z, hz⟩ : ∃ z, z = endZ s.data.toList (allZ s.data.toList ⟨0, 0⟩).1 := ⟨_, rfl⟩
  have hdec : decZ s.data.toList = if z.err = 0 then (if checkOf t = 0 then (t, s.data.toList.length, 0) else (noTx, z.at_, checkOf t)) else (noTx, z.at_, z.err) := by rw [ht, hz]; rfl
  rw [data_len] at hdec
  obtain ⟨r, hr⟩ : ∃ r, r = decZ s.data.toList := ⟨_, rfl⟩
  rw [← hr] at hdec ⊢
  have hol : t.outs.length ≤ 1000 := by have := outs_le s.data.toList ⟨0, 0⟩; rw [ht]; omega
  have q : ∀ y b, RdAt b s ⟨0, 0⟩ y → _ := fun y b hy => read_any b s y hy hs
  simp only [← ht, ← hz] at q
  have HQ := Lib.hid q
  have HD := Lib.hid hdec
  have HOL := Lib.hid hol
  clear q hdec hol ht hz hr
  go_enter Try.func27, Try.ntmps27
  go_upto_region 1 with fail
  have hz := heap_alloc_new w (.cells #[.int .u32 0, .slice none 0 0, .slice none 0 0, .int .u32 0] 26)
  have hal : Below w.heap.size w (w.alloc (.cells #[.int .u32 0, .slice none 0 0, .slice none 0 0, .int .u32 0] 26)) := (Below.refl _ _).alloc (Nat.le_refl _) _
  obtain ⟨X, hX⟩ : ∃ q, q = w.heap.size := ⟨_, rfl⟩
  rw [← hX] at hz ⊢
  generalize w.alloc (.cells #[.int .u32 0, .slice none 0 0, .slice none 0 0, .int .u32 0] 26) = w0 at *
  have HX := Lib.hid hz
  have HB := Lib.hid hal
  have HXN := Lib.hid hX
  clear hz hal hX
  go_upto_region 2 with fail
  have hz := heap_alloc_new w0 (.cells #[.string s, .int .i64 0, .int .i64 0] 73)
  have hal : Below w0.heap.size w0 (w0.alloc (.cells #[.string s, .int .i64 0, .int .i64 0] 73)) := (Below.refl _ _).alloc (Nat.le_refl _) _
  obtain ⟨b, hb⟩ : ∃ q, q = w0.heap.size := ⟨_, rfl⟩
  rw [← hb] at hz ⊢
  generalize w0.alloc (.cells #[.string s, .int .i64 0, .int .i64 0] 73) = w1 at *
  have HR := Lib.hid (show RdAt b s ⟨0, 0⟩ w1 from hz)
  have HN := Lib.hid (show X = w.heap.size ∧ X < b from ⟨HXN.out, by rw [hb]; exact (Array.getElem?_eq_some_iff.1 HX.out).1⟩)
  have HX := Lib.hid ((hal.block X (Array.getElem?_eq_some_iff.1 HX.out).1).trans HX.out)
  have HB := Lib.hid (HB.out.trans (hal.mono HB.out.size))
  clear hz hal hb
  go_wp2_with fail
  refine (HQ.out w1 b HR.out).mono ?_
  rintro e w2 ⟨v, rfl, hown, ha, hf⟩
  obtain ⟨⟨vi, vo, ps, rfl, hp, hi, ho, hap⟩, hv1, hv2⟩ := id hown
  obtain ⟨ai, ci, e1, -, -⟩ := ownsRow_shape hi.row
  obtain ⟨ao, co, e2, -, -⟩ := ownsRow_shape ho.row
  subst e1
  subst e2
  have hb1 : Below w.heap.size w w2 := by
    refine ⟨hf.os.trans HB.out.os, hf.tape.trans HB.out.tape, hf.output.trans HB.out.output, Nat.le_trans HB.out.size hf.size, fun k hk => ?_⟩
    rw [hf.block k (Nat.lt_of_lt_of_le hk HB.out.size) (by have := HN.out; simp; omega)]
    exact HB.out.block k hk
  have HX := Lib.hid (hf.heap HX.out (by have := HN.out; simp; omega))
  have HO := Lib.hid (hown.base (base' := b) (Nat.le_of_lt HR.out.lt))
  have HNB := Lib.hid (show TxOwn w1.heap.size w2 _ t from hown)
  have HB := Lib.hid hb1
  have HBW := Lib.hid (show b < w1.heap.size from HR.out.lt)
  have HFS := Lib.hid hf.size
  have HR := Lib.hid ha
  clear hown hp hi ho hap hv1 hv2 ha hf hb1 HQ
  go_upto_region 3 with fail
  have hz := heap_alloc_new w2 (.cells #[.int .u32 t.ver, .slice ai ps.length ci, .slice ao t.outs.length co, .int .u32 t.lock] 26)
  have hal : Below w2.heap.size w2 (w2.alloc (.cells #[.int .u32 t.ver, .slice ai ps.length ci, .slice ao t.outs.length co, .int .u32 t.lock] 26)) := (Below.refl _ _).alloc (Nat.le_refl _) _
  obtain ⟨Y, hY⟩ : ∃ q, q = w2.heap.size := ⟨_, rfl⟩
  rw [← hY] at hz ⊢
  generalize w2.alloc (.cells #[.int .u32 t.ver, .slice ai ps.length ci, .slice ao t.outs.length co, .int .u32 t.lock] 26) = w3 at *
  have HX := Lib.hid ((hal.block X (Array.getElem?_eq_some_iff.1 HX.out).1).trans HX.out)
  have HR := Lib.hid (HR.out.below hal)
  have HY := Lib.hid hz
  have HNB := Lib.hid (HNB.out.below hal)
  have HB := Lib.hid (HB.out.trans (hal.mono HB.out.size))
  have HYN := Lib.hid (show b < Y from by rw [hY]; exact Nat.lt_of_lt_of_le HBW.out HFS.out)
  clear hz hal hY
  by_cases hze : z.err = 0
  · have hdec := HD.out.trans (if_pos hze)
    have d2 : w3.cell? ⟨b, 2, none⟩ = some (.int .i64 z.err) := cell_at HR.out
    rw [hze] at d2
    have y0 : w3.cell? ⟨Y, 0, none⟩ = some (.int .u32 t.ver) := cell_at HY.out
    have y1 : w3.cell? ⟨Y, 1, none⟩ = some (.slice ai ps.length ci) := cell_at HY.out
    have y2 : w3.cell? ⟨Y, 2, none⟩ = some (.slice ao t.outs.length co) := cell_at HY.out
    have y3 : w3.cell? ⟨Y, 3, none⟩ = some (.int .u32 t.lock) := cell_at HY.out
    have HCK := Lib.hid (check_any _ t w3 HNB.out.tx HOL.out)
    clear hze
    by_cases hc : checkOf t = 0
    · have HDE := Lib.hid (hdec.trans (if_pos hc))
      rw [hc] at HCK
      clear hc hdec
      go_wp2_with fail
      refine HCK.out.mono ?_
      rintro e w4 ⟨rfl, hb⟩
      replace d2 := below_cells hb _ _ d2
      replace y0 := below_cells hb _ _ y0
      replace y1 := below_cells hb _ _ y1
      replace y2 := below_cells hb _ _ y2
      replace y3 := below_cells hb _ _ y3
      have HX := Lib.hid ((hb.block X (Array.getElem?_eq_some_iff.1 HX.out).1).trans HX.out)
      have HR := Lib.hid (HR.out.below hb)
      have HY := Lib.hid ((hb.block Y (Array.getElem?_eq_some_iff.1 HY.out).1).trans HY.out)
      have HNB := Lib.hid (HNB.out.below hb)
      have HB := Lib.hid (HB.out.trans (hb.mono HB.out.size))
      have g2 : w4.frozen? ⟨b, 2, none⟩ = false := free_at HR.out
      clear hb
      have hxb : X ≠ b := by have := HN.out; omega
      have hyb : Y ≠ b := by have := HYN.out; omega
      have HX := Lib.hid ((Below.heap_setCell w4 ⟨b, 2, none⟩ (.int .i64 0) X hxb).trans HX.out)
      have HY := Lib.hid ((Below.heap_setCell w4 ⟨b, 2, none⟩ (.int .i64 0) Y hyb).trans HY.out)
      have HR := Lib.hid (HR.out.setErr 0)
      have HNB := Lib.hid (HNB.out.kept' (w' := w4.setCell ⟨b, 2, none⟩ (.int .i64 0)) fun k hk _ => Below.heap_setCell _ _ _ _ (by have := HBW.out; dsimp only; omega))
      have HB := Lib.hid (HB.out.setCell (p := ⟨b, 2, none⟩) (by have := HN.out; dsimp only; omega) (.int .i64 0))
      go_upto_region 5 with fail
      generalize w4.setCell ⟨b, 2, none⟩ (.int .i64 0) = w5 at *
      clear d2 y0 y1 y2 y3 g2 hxb hyb
      have d2 : w5.cell? ⟨b, 2, none⟩ = some (.int .i64 0) := cell_at HR.out
      have y0 : w5.cell? ⟨Y, 0, none⟩ = some (.int .u32 t.ver) := cell_at HY.out
      have y1 : w5.cell? ⟨Y, 1, none⟩ = some (.slice ai ps.length ci) := cell_at HY.out
      have y2 : w5.cell? ⟨Y, 2, none⟩ = some (.slice ao t.outs.length co) := cell_at HY.out
      have y3 : w5.cell? ⟨Y, 3, none⟩ = some (.int .u32 t.lock) := cell_at HY.out
      have x0 : w5.cell? ⟨X, 0, none⟩ = some (.int .u32 0) := cell_at HX.out
      have x1 : w5.cell? ⟨X, 1, none⟩ = some (.slice none 0 0) := cell_at HX.out
      have x2 : w5.cell? ⟨X, 2, none⟩ = some (.slice none 0 0) := cell_at HX.out
      have x3 : w5.cell? ⟨X, 3, none⟩ = some (.int .u32 0) := cell_at HX.out
      have f0 : w5.frozen? ⟨X, 0, none⟩ = false := free_at HX.out
      have f1 : w5.frozen? ⟨X, 1, none⟩ = false := free_at HX.out
      have f2 : w5.frozen? ⟨X, 2, none⟩ = false := free_at HX.out
      have f3 : w5.frozen? ⟨X, 3, none⟩ = false := free_at HX.out
      obtain ⟨-, c5⟩ := four_cells' HX.out (.int .u32 t.ver) (.slice ai ps.length ci) (.slice ao t.outs.length co) (.int .u32 t.lock)
      have hfx := c5 [X] (by simp)
      have HBB := Lib.hid (HB.out.trans (hfx.below HB.out.size (by have := HN.out; simp; omega)))
      have HOO := Lib.hid ((HNB.out.kept' (fun k hk hkl => hfx.block k hkl (by have := HN.out; have := HBW.out; simp; omega))).base (base' := w.heap.size) (by have := HN.out; have := HBW.out; omega))
      clear c5 hfx
      go_wp2_with fail
      refine bodyPost_ret (v := .tuple #[.agg #[.int .u32 t.ver, .slice ai ps.length ci, .slice ao t.outs.length co, .int .u32 t.lock], .int .i64 s.size, .int .i64 0]) (by simp [results, Try.results27, go_sem, x0, x1, x2, x3]) rfl ⟨_, by rw [HDE.out], by rw [HDE.out]; exact HOO.out, HBB.out⟩
    · have HDE := Lib.hid (hdec.trans (if_neg hc))
      obtain ⟨ck, hck⟩ : ∃ ck, ck = checkOf t := ⟨_, rfl⟩
      rw [← hck] at HDE HCK hc
      have hne1 : (ck != 0) = true := by simpa using hc
      have hne2 : (ck == 0) = false := by simpa using hc
      clear hdec hck
      go_wp2_with fail
      refine HCK.out.mono ?_
      rintro e w4 ⟨rfl, hb⟩
      replace d2 := below_cells hb _ _ d2
      have HX := Lib.hid ((hb.block X (Array.getElem?_eq_some_iff.1 HX.out).1).trans HX.out)
      have HR := Lib.hid (HR.out.below hb)
      have HB := Lib.hid (HB.out.trans (hb.mono HB.out.size))
      have g2 : w4.frozen? ⟨b, 2, none⟩ = false := free_at HR.out
      clear hb y0 y1 y2 y3 HY HNB
      have hxb : X ≠ b := by have := HN.out; omega
      have HX := Lib.hid ((Below.heap_setCell w4 ⟨b, 2, none⟩ (.int .i64 ck) X hxb).trans HX.out)
      have HR := Lib.hid (HR.out.setErr ck)
      have HB := Lib.hid (HB.out.setCell (p := ⟨b, 2, none⟩) (by have := HN.out; dsimp only; omega) (.int .i64 ck))
      go_upto_region 5 with fail
      generalize w4.setCell ⟨b, 2, none⟩ (.int .i64 ck) = w5 at *
      clear d2 g2
      have d1 : w5.cell? ⟨b, 1, none⟩ = some (.int .i64 z.at_) := cell_at HR.out
      have d2 : w5.cell? ⟨b, 2, none⟩ = some (.int .i64 ck) := cell_at HR.out
      have x0 : w5.cell? ⟨X, 0, none⟩ = some (.int .u32 0) := cell_at HX.out
      have x1 : w5.cell? ⟨X, 1, none⟩ = some (.slice none 0 0) := cell_at HX.out
      have x2 : w5.cell? ⟨X, 2, none⟩ = some (.slice none 0 0) := cell_at HX.out
      have x3 : w5.cell? ⟨X, 3, none⟩ = some (.int .u32 0) := cell_at HX.out
      have f0 : w5.frozen? ⟨X, 0, none⟩ = false := free_at HX.out
      have f1 : w5.frozen? ⟨X, 1, none⟩ = false := free_at HX.out
      have f2 : w5.frozen? ⟨X, 2, none⟩ = false := free_at HX.out
      have f3 : w5.frozen? ⟨X, 3, none⟩ = false := free_at HX.out
      obtain ⟨-, c5⟩ := four_cells' HX.out (.int .u32 ((0 : Nat) : Int)) (.slice none 0 0) (.slice none 0 0) (.int .u32 ((0 : Nat) : Int))
      have hfx := c5 [X] (by simp)
      have HBB := Lib.hid (HB.out.trans (hfx.below HB.out.size (by have := HN.out; simp; omega)))
      clear c5 hfx
      go_wp2_with fail
      go_region
      have HBD := Lib.hid (HBB.out.drew)
      go_wp2_with fail
      refine bodyPost_ret (v := .tuple #[.agg #[.int .u32 ((0 : Nat) : Int), .slice none 0 0, .slice none 0 0, .int .u32 ((0 : Nat) : Int)], .int .i64 z.at_, .int .i64 ck]) (by simp [results, Try.results27, go_sem, x0, x1, x2, x3]) rfl ⟨_, by rw [HDE.out], by rw [HDE.out]; exact noTx_own _ _, HBD.out⟩
  · have HDE := Lib.hid (HD.out.trans (if_neg hze))
    obtain ⟨ck, hck⟩ : ∃ ck, ck = z.err := ⟨_, rfl⟩
    rw [← hck] at HDE hze
    have hne1 : (ck != 0) = true := by simpa using hze
    have hne2 : (ck == 0) = false := by simpa using hze
    have hxb : X ≠ b := by have := HN.out; omega
    have HR := Lib.hid (show RdAt b s ⟨z.at_, ck⟩ w3 by rw [hck]; exact HR.out)
    clear hck
    have d1 : w3.cell? ⟨b, 1, none⟩ = some (.int .i64 z.at_) := cell_at HR.out
    have d2 : w3.cell? ⟨b, 2, none⟩ = some (.int .i64 ck) := cell_at HR.out
    have x0 : w3.cell? ⟨X, 0, none⟩ = some (.int .u32 0) := cell_at HX.out
    have x1 : w3.cell? ⟨X, 1, none⟩ = some (.slice none 0 0) := cell_at HX.out
    have x2 : w3.cell? ⟨X, 2, none⟩ = some (.slice none 0 0) := cell_at HX.out
    have x3 : w3.cell? ⟨X, 3, none⟩ = some (.int .u32 0) := cell_at HX.out
    have f0 : w3.frozen? ⟨X, 0, none⟩ = false := free_at HX.out
    have f1 : w3.frozen? ⟨X, 1, none⟩ = false := free_at HX.out
    have f2 : w3.frozen? ⟨X, 2, none⟩ = false := free_at HX.out
    have f3 : w3.frozen? ⟨X, 3, none⟩ = false := free_at HX.out
    obtain ⟨-, c5⟩ := four_cells' HX.out (.int .u32 ((0 : Nat) : Int)) (.slice none 0 0) (.slice none 0 0) (.int .u32 ((0 : Nat) : Int))
    have hfx := c5 [X] (by simp)
    have HBB := Lib.hid (HB.out.trans (hfx.below HB.out.size (by have := HN.out; simp; omega)))
    clear c5 hfx
    go_wp2_with fail
    go_region
    have HBD := Lib.hid (HBB.out.drew)
    go_wp2_with fail
    refine bodyPost_ret (v := .tuple #[.agg #[.int .u32 ((0 : Nat) : Int), .slice none 0 0, .slice none 0 0, .int .u32 ((0 : Nat) : Int)], .int .i64 z.at_, .int .i64 ck]) (by simp [results, Try.results27, go_sem, x0, x1, x2, x3]) rfl ⟨_, by rw [HDE.out], by rw [HDE.out]; exact noTx_own _ _, HBD.out⟩
end Go.Proofs.Ytmcknjldimnaoaa
end

section
/-
  kedgelaw06.wakes. Conditions: none.
-/
namespace Go.Proofs.Ytmcknjldimnaoaa
open Go.RowKit Go.BigFrame
set_option linter.unusedVariables false
set_option linter.unusedSimpArgs false

theorem step_call_g {P : Program} {ops : Array Oper} {o : Oper} {a : Act} {w : World} {K : Act → World → Prop} {Q : Exit → Act → World → Prop} {E : Prop} {f : FuncId} {args : Array Value} {R : Ending → World → Prop} (hw : Region.wanted o (yielded ops a.tmps) = true)
    (hrun : (execOp a.eval o).run P w = .ok (.enter f args) w) (hc : Calls P f args w R) (hR : ∀ e w', R e w' → ∃ v, e = .returned v ∧ K (a.put o.dst v) w') :
    if Region.wanted o (yielded ops a.tmps) = true then Oper.wp P o a w K Q else E := by
  rw [if_pos hw]
  unfold Oper.wp
  rw [hrun]
  refine hc.mono ?_
  intro e w' h
  obtain ⟨v, rfl, hk⟩ := hR e w' h
  exact hk
/-- What a transaction's numbers may be. -/
theorem tx_nums {w : World} {v : Value} {t : PTx} (h : TxAt w v t) : t.ver < 4294967296 ∧ t.lock < 4294967296 ∧ ∀ x ∈ t.ins, x.idx < 4294967296 ∧ x.seq < 4294967296 := by
  obtain ⟨va, vo, rfl, h1, -, h3, h4⟩ := h
  refine ⟨h3, h4, fun x hx => ?_⟩
  obtain ⟨i, hi, rfl⟩ := List.getElem_of_mem hx
  obtain ⟨a, c, rfl, -, -⟩ := h1.shape
  obtain ⟨b, o, y, wv, -, hy, h5, h6, -⟩ := h1.inp hi
  rw [List.getElem?_eq_getElem hi] at hy
  obtain rfl := Option.some.inj hy
  exact ⟨h6, h5⟩
theorem okP_of {t : PTx} (h : checkOf t = 0) (hn : t.ver < 4294967296 ∧ t.lock < 4294967296 ∧ ∀ x ∈ t.ins, x.idx < 4294967296 ∧ x.seq < 4294967296) : OkP t := by
  have hw := whole_of h
  have he := enc_of hw
  obtain ⟨hc, -⟩ := counts_parts hw.counts
  exact ⟨hn.1, hn.2.1, ⟨hc.1, hc.2.1⟩, ⟨hc.2.2.1, hc.2.2.2⟩, fun x hx => ⟨⟨(he.ids x hx).1, hn.2.2 x hx⟩, ⟨Nat.zero_le _, (he.ids x hx).2.1⟩, (he.ids x hx).2.2⟩, fun x hx => he.vals x hx⟩

def g6 : PTx := grantTx 0 [⟨0, ByteArray.empty⟩]
theorem g6_check : checkOf g6 = 0 := by
  have h1 : countsOf g6 = true := by decide
  have h2 : longOf g6 = false := by decide
  have h3 : formedOf g6 = true := by decide
  have h4 : dup (ptsOf g6) = false := dup_no (by simp [ptsOf, g6, grantTx])
  rw [check_sum h1 h2 h3 h4]
  decide
theorem g6_wit : witOf g6 = false := by decide
def g6B : List UInt8 := [2, 0, 0, 0, 1] ++ List.replicate 32 0 ++ [255, 255, 255, 255, 0, 255, 255, 255, 255, 1] ++ List.replicate 13 0
theorem g6_enc : encL g6 false = g6B := by decide +kernel
theorem g6_ok : OkP g6 := okP_of g6_check ⟨by decide, by decide, by decide⟩
theorem rep_zero (n : Nat) : Lib.repeatL (ByteArray.mk #[0]).data.toList n = List.replicate n 0 := by
  induction n with
  | zero => rfl
  | succ n ih => 
    have : Lib.repeatL (ByteArray.mk #[0]).data.toList (n + 1) = (ByteArray.mk #[0]).data.toList ++ Lib.repeatL (ByteArray.mk #[0]).data.toList n := rfl
    rw [this, ih]
    rfl
theorem zeros6 (c : Nat) (w : World) (h2 : 2 ≤ c) (hc : c ≤ 1000) : Calls Try.prog 52 #[.string ⟨#[0]⟩, .int .i64 c] w fun e w' => e = .returned (.string (bL (List.replicate c 0))) ∧ Below w.heap.size w w' := by
  have h := Try.strings_Repeat_main (ByteArray.mk #[0]) c w h2 (by omega) (by rw [show (ByteArray.mk #[0]).size = 1 from rfl]; omega) (by decide)
  rw [rep_zero] at h
  exact h

set_option maxRecDepth 100000 in
set_option maxHeartbeats 4000000 in
theorem wakes6_any (w : World) : Calls Try.prog 29 #[] w (BIs true w) := by
  obtain ⟨s, hs⟩ : ∃ s, s = bL g6B := ⟨_, rfl⟩
  have hsz : s.size = 60 := by rw [hs, bL_size]; rfl
  have HS := Lib.hid hs
  have henc : encE g6 (witOf g6) = s := by rw [hs, ← g6_enc]; unfold encE; rw [if_pos g6_check, g6_wit]
  have hd1 : decZ s.data.toList = (g6, 60, 0) := by
    have h := dec_back g6_ok g6_check
    rw [g6_wit, g6_enc] at h
    rw [hs, bL_list, h]
    rfl
  have hd2 : ∀ m : List UInt8, m ≠ [] → decZ (g6B ++ m) = (noTx, 60, 4) := fun m hm => by
    have h := dec_more g6_ok hm
    rw [g6_wit, g6_enc] at h
    exact h
  have hd3 : decZ (s ++ (⟨#[120]⟩ : ByteArray)).data.toList = (noTx, 60, 4) := by
    have e : (s ++ (⟨#[120]⟩ : ByteArray)).data.toList = g6B ++ [120] := by rw [hs]; simp [bL]
    rw [e]
    exact hd2 [120] (by simp)
  have HD1 := Lib.hid (fun y => decode_any s y (by omega))
  rw [hd1] at HD1
  have HD3 := Lib.hid (fun y => decode_any (s ++ (⟨#[120]⟩ : ByteArray)) y (by rw [ByteArray.size_append, hsz, show (⟨#[120]⟩ : ByteArray).size = 1 from rfl]; decide))
  rw [hd3] at HD3
  have HEN := Lib.hid henc
  have HSZ := Lib.hid hsz
  have hsl60 : s.size ≤ 60 := by omega
  have q120 : (⟨#[120]⟩ : ByteArray).size = 1 := rfl
  have q5 : (⟨#[2, 0, 0, 0, 1]⟩ : ByteArray).size = 5 := rfl
  have q10 : (⟨#[255, 255, 255, 255, 0, 255, 255, 255, 255, 1]⟩ : ByteArray).size = 10 := rfl
  clear henc hd1 hd2 hd3 hs hsz
  go_enter Try.func29, Try.ntmps29
  go_wp2_with fail
  have hz := heap_alloc_new w (.cells #[.int .i64 0, .string ⟨#[]⟩] 59)
  have hal : Below w.heap.size w (w.alloc (.cells #[.int .i64 0, .string ⟨#[]⟩] 59)) := (Below.refl _ _).alloc (Nat.le_refl _) _
  have hsl : SlAt rpOut (w.alloc (.cells #[.int .i64 0, .string ⟨#[]⟩] 59)) (.slice (some ⟨w.heap.size, 0, none⟩) 1 1) [⟨0, ByteArray.empty⟩] := by
    refine ⟨_, _, rfl, Nat.le_refl _, by rw [maxLen_eq]; decide, fun i x hi => ?_⟩
    match i, hi with
    | 0, hi =>
      obtain rfl := Option.some.inj hi
      refine ⟨w.heap.size, 0, [.int .i64 0, .string ⟨#[]⟩], rfl, rfl, fun j u hj => ?_, rfl, ⟨by decide, by decide⟩, by rw [maxLen_eq]; decide⟩
      rw [cell_at hz]
      match j, hj with
      | 0, hj => exact hj
      | 1, hj => exact hj
  have HAL := Lib.hid hal
  have HSL := Lib.hid hsl
  clear hal hsl hz
  generalize w.alloc (.cells #[.int .i64 0, .string ⟨#[]⟩] 59) = w0 at *
  refine (grant_any 0 _ _ w0 HSL.out (by decide)).mono ?_
  rintro e w1 ⟨v, rfl, hg, hb⟩
  have HB := Lib.hid (HAL.out.trans (hb.mono HAL.out.size))
  have htx : TxAt w1 v g6 := hg.tx
  obtain ⟨va, vo, rfl, ha, ho, -, -⟩ := id htx
  obtain ⟨a1, c1, rfl, -, -⟩ := ha.shape
  obtain ⟨a2, c2, rfl, -, -⟩ := ho.shape
  have HQ := Lib.hid (wenc_any _ _ w1 htx (by decide))
  rw [HEN.out, g6_check] at HQ
  clear hb hg ha ho htx HSL HAL
  go_wp2_with fail
  refine HQ.out.mono ?_
  rintro e w2 ⟨rfl, hb⟩
  have HB := Lib.hid (HB.out.trans (hb.mono HB.out.size))
  clear hb HQ
  go_wp2_with fail
  refine (HD1.out w2).mono ?_
  rintro e w3 ⟨v3, rfl, hown, hb⟩
  have htx : TxAt w3 v3 g6 := hown.tx
  obtain ⟨va, vo, rfl, ha, ho, -, -⟩ := id htx
  obtain ⟨a3, c3, rfl, -, -⟩ := ha.shape
  obtain ⟨a4, c4, rfl, -, -⟩ := ho.shape
  have HB := Lib.hid (HB.out.trans (hb.mono HB.out.size))
  have hl1 : g6.ins.length = 1 := rfl
  have hl2 : g6.outs.length = 1 := rfl
  have hl3 : g6.ver = 2 := rfl
  have hl4 : g6.lock = 0 := rfl
  have HT3 := Lib.hid htx
  rw [hl1, hl2, hl3, hl4] at HT3 ⊢
  clear hb hown ha ho htx HD1 hl1 hl2 hl3 hl4
  go_upto_region 3 with fail
  have hz := heap_alloc_new w3 (.cells #[.int .u32 2, .slice a3 1 c3, .slice a4 1 c4, .int .u32 0] 26)
  have hal : Below w3.heap.size w3 (w3.alloc (.cells #[.int .u32 2, .slice a3 1 c3, .slice a4 1 c4, .int .u32 0] 26)) := (Below.refl _ _).alloc (Nat.le_refl _) _
  obtain ⟨Y3, hY3⟩ : ∃ q, q = w3.heap.size := ⟨_, rfl⟩
  rw [← hY3] at hz ⊢
  generalize w3.alloc (.cells #[.int .u32 2, .slice a3 1 c3, .slice a4 1 c4, .int .u32 0] 26) = w4 at *
  have u0 : w4.cell? ⟨Y3, 0, none⟩ = some (.int .u32 2) := cell_at hz
  have u1 : w4.cell? ⟨Y3, 1, none⟩ = some (.slice a3 1 c3) := cell_at hz
  have u2 : w4.cell? ⟨Y3, 2, none⟩ = some (.slice a4 1 c4) := cell_at hz
  have u3 : w4.cell? ⟨Y3, 3, none⟩ = some (.int .u32 0) := cell_at hz
  have HT3 := Lib.hid (HT3.out.below hal)
  have HB := Lib.hid (HB.out.trans (hal.mono HB.out.size))
  clear hz hal hY3
  go_wp2_with fail
  refine (HD3.out w4).mono ?_
  rintro e w5 ⟨v5, rfl, hown, hb⟩
  obtain ⟨va, vo, rfl, ha, ho, -, -⟩ := hown.tx
  obtain ⟨a5, c5, rfl, -, -⟩ := ha.shape
  obtain ⟨a6, c6, rfl, -, -⟩ := ho.shape
  have HT3 := Lib.hid (HT3.out.below hb)
  have HB := Lib.hid (HB.out.trans (hb.mono HB.out.size))
  replace u0 := below_cells hb _ _ u0
  replace u1 := below_cells hb _ _ u1
  replace u2 := below_cells hb _ _ u2
  replace u3 := below_cells hb _ _ u3
  clear hb hown ha ho HD3
  go_upto_region 4 with fail
  have hz := heap_alloc_new w5 (.cells #[.int .u32 noTx.ver, .slice a5 noTx.ins.length c5, .slice a6 noTx.outs.length c6, .int .u32 noTx.lock] 26)
  have hal : Below w5.heap.size w5 (w5.alloc (.cells #[.int .u32 noTx.ver, .slice a5 noTx.ins.length c5, .slice a6 noTx.outs.length c6, .int .u32 noTx.lock] 26)) := (Below.refl _ _).alloc (Nat.le_refl _) _
  obtain ⟨Y6, hY6⟩ : ∃ q, q = w5.heap.size := ⟨_, rfl⟩
  rw [← hY6] at hz ⊢
  generalize w5.alloc (.cells #[.int .u32 noTx.ver, .slice a5 noTx.ins.length c5, .slice a6 noTx.outs.length c6, .int .u32 noTx.lock] 26) = w6 at *
  have hb := hal
  have HT3 := Lib.hid (HT3.out.below hb)
  have HB := Lib.hid (HB.out.trans (hb.mono HB.out.size))
  replace u0 := below_cells hb _ _ u0
  replace u1 := below_cells hb _ _ u1
  replace u2 := below_cells hb _ _ u2
  replace u3 := below_cells hb _ _ u3
  clear hz hal hY6 hb
  go_wp2_with fail
  refine (zeros6 32 w6 (by decide) (by decide)).mono ?_
  rintro e w7 ⟨rfl, hb⟩
  have HT3 := Lib.hid (HT3.out.below hb)
  have HB := Lib.hid (HB.out.trans (hb.mono HB.out.size))
  replace u0 := below_cells hb _ _ u0
  replace u1 := below_cells hb _ _ u1
  replace u2 := below_cells hb _ _ u2
  replace u3 := below_cells hb _ _ u3
  obtain ⟨r1, hr1⟩ : ∃ r, r = bL (List.replicate 32 0) := ⟨_, rfl⟩
  rw [← hr1]
  have h1s : r1.size = 32 := by rw [hr1, bL_size]; rfl
  have HR1 := Lib.hid hr1
  clear hb hr1
  go_wp2_with fail
  refine (zeros6 13 w7 (by decide) (by decide)).mono ?_
  rintro e w8 ⟨rfl, hb⟩
  have HT3 := Lib.hid (HT3.out.below hb)
  have HB := Lib.hid (HB.out.trans (hb.mono HB.out.size))
  replace u0 := below_cells hb _ _ u0
  replace u1 := below_cells hb _ _ u1
  replace u2 := below_cells hb _ _ u2
  replace u3 := below_cells hb _ _ u3
  obtain ⟨r2, hr2⟩ : ∃ r, r = bL (List.replicate 13 0) := ⟨_, rfl⟩
  rw [← hr2]
  have h2s : r2.size = 13 := by rw [hr2, bL_size]; rfl
  have HR2 := Lib.hid hr2
  clear hb hr2
  go_upto_region 5 with fail
  have hw : (⟨#[2, 0, 0, 0, 1]⟩ : ByteArray) ++ r1 ++ (⟨#[255, 255, 255, 255, 0, 255, 255, 255, 255, 1]⟩ : ByteArray) ++ r2 = s := by
    rw [HR1.out, HR2.out, HS.out]
    apply ByteArray.ext
    apply Array.ext'
    rfl
  rw [hw]
  have hszE := HSZ.out
  have hz := heap_alloc_new w8 (.cells #[.int .i64 0, .string ⟨#[]⟩] 59)
  have hal : Below w8.heap.size w8 (w8.alloc (.cells #[.int .i64 0, .string ⟨#[]⟩] 59)) := (Below.refl _ _).alloc (Nat.le_refl _) _
  have hsl : SlAt rpOut (w8.alloc (.cells #[.int .i64 0, .string ⟨#[]⟩] 59)) (.slice (some ⟨w8.heap.size, 0, none⟩) 1 1) [⟨0, ByteArray.empty⟩] := by
    refine ⟨_, _, rfl, Nat.le_refl _, by rw [maxLen_eq]; decide, fun i x hi => ?_⟩
    match i, hi with
    | 0, hi =>
      obtain rfl := Option.some.inj hi
      refine ⟨w8.heap.size, 0, [.int .i64 0, .string ⟨#[]⟩], rfl, rfl, fun j u hj => ?_, rfl, ⟨by decide, by decide⟩, by rw [maxLen_eq]; decide⟩
      rw [cell_at hz]
      match j, hj with
      | 0, hj => exact hj
      | 1, hj => exact hj
  have HAL := Lib.hid hal
  have HSL := Lib.hid hsl
  have hal := fun o => cell_over u0 o
  have hal1 := fun o => cell_over u1 o
  have hal2 := fun o => cell_over u2 o
  have hal3 := fun o => cell_over u3 o
  have HGR := Lib.hid (grant_any 0 _ _ (w8.alloc (.cells #[.int .i64 0, .string ⟨#[]⟩] 59)).drew (show SlAt rpOut (w8.alloc (.cells #[.int .i64 0, .string ⟨#[]⟩] 59)).drew (.slice (some ⟨w8.heap.size, 0, none⟩) 1 1) [⟨0, ByteArray.empty⟩] from HSL.out) (by decide))
  clear hsl hz hw h1s h2s
  have HGS := Lib.hid (fun (wg : World) (vg : Value) (hg : TxAt wg vg g6) (hbg : Below (w8.alloc (.cells #[.int .i64 0, .string ⟨#[]⟩] 59)).drew.heap.size (w8.alloc (.cells #[.int .i64 0, .string ⟨#[]⟩] 59)).drew wg) =>
    have h1 := same_any _ _ g6 g6 wg (HT3.out.below (HAL.out.drew.trans (hbg.mono HAL.out.drew.size))) hg
    have h2 := same_yes (t := g6) (u := g6) rfl
    show Calls Try.prog 30 _ wg (BIs true wg) from h2 ▸ h1)
  go_region_held3 (fun w' => w'.cell? ⟨Y3, 0, none⟩ = some (.int .u32 2) ∧ w'.cell? ⟨Y3, 1, none⟩ = some (.slice a3 1 c3) ∧ w'.cell? ⟨Y3, 2, none⟩ = some (.slice a4 1 c4) ∧ w'.cell? ⟨Y3, 3, none⟩ = some (.int .u32 0))
    (first | exact ⟨u0, u1, u2, u3⟩ | exact ⟨hal _, hal1 _, hal2 _, hal3 _⟩ | exact ⟨below_cells hbg _ _ (hal _), below_cells hbg _ _ (hal1 _), below_cells hbg _ _ (hal2 _), below_cells hbg _ _ (hal3 _)⟩ | exact ⟨below_cells hbs _ _ (below_cells hbg _ _ (hal _)), below_cells hbs _ _ (below_cells hbg _ _ (hal1 _)), below_cells hbs _ _ (below_cells hbg _ _ (hal2 _)), below_cells hbs _ _ (below_cells hbg _ _ (hal3 _))⟩ | go_keep)
    (first
      | (go_at_call 38; refine HGR.out.mono ?_; rintro e wg ⟨vg, rfl, hg, hbg⟩; have hgt : TxAt wg vg g6 := hg.tx)
      | (go_at_call 30; refine (HGS.out wg vg hgt hbg).mono ?_; rintro e ws ⟨rfl, hbs⟩))
  have hb1 := HAL.out.drew.trans (hbg.mono HAL.out.drew.size)
  have hb2 := hb1.trans (hbs.mono hb1.size)
  have HBB := Lib.hid (HB.out.trans (hb2.mono HB.out.size))
  clear hb1 hb2 hbg hbs hgt hg
  go_wp2_with fail
  go_ret
  exact ⟨rfl, HBB.out⟩
end Go.Proofs.Ytmcknjldimnaoaa
end

section
/-
  WireCuts: the walk. Conditions: none.
-/
namespace Go.Proofs.Ytmcknjldimnaoaa
open Go.RowKit Go.BigFrame
set_option linter.unusedVariables false
set_option linter.unusedSimpArgs false

theorem fit_len {t : PTx} (h : Fitted t) : t.outs.length ≤ 1000 := Nat.le_trans h.few.2 (by omega)
theorem enc_pos (t : PTx) (b : Bool) : 4 ≤ (encL t b).length := by
  unfold encL
  simp only [List.length_append, leB_length]
  omega
theorem toList_nil {s : ByteArray} (h : s.size ≠ 0) : (s.toList = []) = False ∧ s.toList.isEmpty = false := by
  rw [ByteArray.toList_eq]
  have h2 : s.data.toList ≠ [] := fun e => h (by rw [← data_len, e]; rfl)
  exact ⟨by simp only [eq_iff_iff, iff_false]; exact h2, by rw [List.isEmpty_eq_false_iff]; exact h2⟩
set_option maxRecDepth 100000 in
set_option maxHeartbeats 4000000 in
theorem wireCuts_walk (v : Value) (t0 : PTx) (cut : Int) (more : ByteArray) (w : World) (hv : TxAt w v t0) (hcut : (Lit.int .u16 cut).wf = true) (hmore : more.size ≤ 9223372036854775807) :
    Calls Try.prog 8 #[v, .int .u16 cut, .string more] w (BIs true w) := by
  obtain ⟨hcu0, hcu1⟩ := wf_u16 hcut
  have hv' := hv
  obtain ⟨va, vo, rfl, hia, hob, -, -⟩ := hv
  obtain ⟨a, c, rfl, -, -⟩ := hia.shape
  obtain ⟨a', c', rfl, -, -⟩ := hob.shape
  obtain ⟨l1, hl1⟩ : ∃ n, n = t0.ins.length := ⟨_, rfl⟩
  obtain ⟨l2, hl2⟩ : ∃ n, n = t0.outs.length := ⟨_, rfl⟩
  rw [← hl1, ← hl2] at hv' ⊢
  have HV := Lib.hid hv'
  clear hia hob hl1 hl2 hv' hcut
  go_enter Try.func8, Try.ntmps8
  go_upto_region 1 with fail
  have hz := heap_alloc_new w (.cells #[.int .u32 t0.ver, .slice a l1 c, .slice a' l2 c', .int .u32 t0.lock] 26)
  have hal : Below w.heap.size w (w.alloc (.cells #[.int .u32 t0.ver, .slice a l1 c, .slice a' l2 c', .int .u32 t0.lock] 26)) := (Below.refl _ _).alloc (Nat.le_refl _) _
  obtain ⟨X, hX⟩ : ∃ q, q = w.heap.size := ⟨_, rfl⟩
  rw [← hX] at hz ⊢
  generalize w.alloc (.cells #[.int .u32 t0.ver, .slice a l1 c, .slice a' l2 c', .int .u32 t0.lock] 26) = w0 at *
  have p0 : w0.cell? ⟨X, 0, none⟩ = some (.int .u32 t0.ver) := cell_at hz
  have p1 : w0.cell? ⟨X, 1, none⟩ = some (.slice a l1 c) := cell_at hz
  have p2 : w0.cell? ⟨X, 2, none⟩ = some (.slice a' l2 c') := cell_at hz
  have p3 : w0.cell? ⟨X, 3, none⟩ = some (.int .u32 t0.lock) := cell_at hz
  have HB := Lib.hid hal
  have HV0 := Lib.hid (HV.out.below hal)
  clear hz hal hX HV
  go_wp2_with fail
  refine (fit_any _ t0 w0 HV0.out).mono ?_
  rintro en w1 ⟨vu, u, rfl, hown, hfit, hb⟩
  have htx := hown.tx
  obtain ⟨va, vo, rfl, ha, ho, -, -⟩ := id htx
  obtain ⟨a1, c1, rfl, -, -⟩ := ha.shape
  obtain ⟨a2, c2, rfl, -, -⟩ := ho.shape
  have HB := Lib.hid (HB.out.trans (hb.mono HB.out.size))
  have HE := Lib.hid (wenc_any _ u w1 htx (fit_len hfit))
  have hnum := tx_nums htx
  obtain ⟨s, hs⟩ : ∃ s, s = encE u (witOf u) := ⟨_, rfl⟩
  rw [← hs] at HE
  have HNU := Lib.hid hnum
  have HS := Lib.hid hs
  clear hown hfit ha ho hb p0 p1 p2 p3 HV0 htx hnum hs
  by_cases hc : checkOf u = 0
  rotate_left
  · obtain ⟨ck, hck⟩ : ∃ ck, ck = checkOf u := ⟨_, rfl⟩
    rw [← hck] at HE hc
    have hcn : (ck != 0) = true := by simpa using hc
    clear hck hc
    go_wp2_with fail
    refine HE.out.mono ?_
    rintro e w2 ⟨rfl, hb⟩
    have HB := Lib.hid (HB.out.trans (hb.mono HB.out.size))
    clear hb HE
    go_wp2_with fail
    refine (wakes6_any w2).mono ?_
    rintro e w4 ⟨rfl, hb⟩
    have HB := Lib.hid (HB.out.trans (hb.mono HB.out.size))
    clear hb
    go_wp2_with fail
    go_ret
    exact ⟨rfl, HB.out⟩
  have hsb : s = bL (encL u (witOf u)) := HS.out.trans (if_pos hc)
  have hok := okP_of hc HNU.out
  rw [hc] at HE
  by_cases hm0 : more.size = 0
  · have hme : more = ⟨#[]⟩ := by
      have : more.data.toList.length = 0 := by rw [data_len]; exact hm0
      have h2 : more = ByteArray.empty := by simpa using this
      exact h2
    subst hme
    clear hsb hok hc hm0
    go_wp2_with fail
    refine HE.out.mono ?_
    rintro e w2 ⟨rfl, hb⟩
    have HB := Lib.hid (HB.out.trans (hb.mono HB.out.size))
    clear hb HE
    go_wp2_with fail
    refine (wakes6_any w2).mono ?_
    rintro e w4 ⟨rfl, hb⟩
    have HB := Lib.hid (HB.out.trans (hb.mono HB.out.size))
    clear hb
    go_wp2_with fail
    go_ret
    exact ⟨rfl, HB.out⟩
  have hsl : s.size = (encL u (witOf u)).length := by rw [hsb, bL_size]
  have hsp : 4 ≤ s.size := by rw [hsl]; exact enc_pos u _
  have hsz : s.size ≤ 200000 := by rw [hsl]; exact encL_le (enc_of (whole_of hc)) _
  obtain ⟨k, hk⟩ : ∃ k : Nat, cut % (s.size : Int) = (k : Int) := ⟨(cut % (s.size : Int)).toNat, by have := Int.emod_nonneg cut (show (s.size : Int) ≠ 0 by omega); omega⟩
  have hkl : k < s.size := by have := Int.emod_lt_of_pos cut (show (0 : Int) < s.size by omega); omega
  obtain ⟨s1, hs1⟩ : ∃ x, x = s.extract 0 k := ⟨_, rfl⟩
  have hs1l : s1.data.toList = (encL u (witOf u)).take k := by rw [hs1, hsb]; simp [bL]
  have hs1z : s1.size = k := by rw [hs1, ByteArray.size_extract]; omega
  obtain ⟨t1, n1, f1, hd1⟩ : ∃ t n c, decZ s1.data.toList = (t, n, c) := ⟨_, _, _, rfl⟩
  have hf1 : f1 = 5 := by
    have h := dec_cut hok (c := k) (by rw [← hsl]; exact hkl)
    rw [← hs1l, hd1] at h
    exact h
  have hn1 : n1 ≤ k := by
    have h := (dec_bound s1.data.toList).1
    rw [hd1, data_len, hs1z] at h
    exact h
  subst hf1
  obtain ⟨m, hm⟩ : ∃ m, m = min more.size 50 := ⟨_, rfl⟩
  have hmn : min (more.size : Int) 50 = (m : Int) := by omega
  have hmm0 : (0 : Int) ≤ (m : Int) := by omega
  have hmm1 : (m : Int) ≤ (more.size : Int) := by omega
  obtain ⟨s2, hs2⟩ : ∃ x, x = s ++ more.extract 0 m := ⟨_, rfl⟩
  have hmx : (more.extract 0 m).size = m := by rw [ByteArray.size_extract]; omega
  have hd2 : decZ s2.data.toList = (noTx, s.size, 4) := by
    have h := dec_more hok (m := (more.extract 0 m).data.toList) (fun e => by
      have := congrArg List.length e
      rw [data_len, hmx] at this
      simp at this
      omega)
    have e2 : s2.data.toList = encL u (witOf u) ++ (more.extract 0 m).data.toList := by rw [hs2, hsb]; simp [bL]
    rw [e2, h, hsl]
  have hq1 := fun y => decode_any s1 y (by omega)
  rw [hd1] at hq1
  have hq2 := fun y => decode_any s2 y (by rw [hs2, ByteArray.size_append, hmx]; omega)
  rw [hd2] at hq2
  have HQ1 := Lib.hid hq1
  have HQ2 := Lib.hid hq2
  have HS1 := Lib.hid hs1
  have HS2 := Lib.hid hs2
  obtain ⟨hme1, hme2⟩ := toList_nil hm0
  have hk0 : (0 : Int) ≤ (k : Int) := by omega
  have hk1 : (k : Int) ≤ (s.size : Int) := by omega
  have hsI : (s.size : Int) ≤ 200000 := by omega
  have hsP : (0 : Int) < (s.size : Int) := by omega
  have hsN : (s.size : Int) ≠ 0 := by omega
  have hnI : (n1 : Int) ≤ (k : Int) := by omega
  have hn0 : (0 : Int) ≤ (n1 : Int) := by omega
  have hmxI : (more.extract 0 m).size ≤ 50 := by omega
  clear hq1 hq2 hs1 hs2 hd1 hd2 hs1l hs1z hsb hsl hok hc hm hmx hkl hn1 hm0
  go_wp2_with fail
  refine HE.out.mono ?_
  rintro e w2 ⟨rfl, hb⟩
  have HB := Lib.hid (HB.out.trans (hb.mono HB.out.size))
  clear hb HE
  go_wp2_with fail
  refine (wakes6_any w2).mono ?_
  rintro e w3 ⟨rfl, hb⟩
  have HB := Lib.hid (HB.out.trans (hb.mono HB.out.size))
  clear hb
  go_wp2_with fail
  rw [← HS1.out]
  refine (HQ1.out w3).mono ?_
  rintro e w4 ⟨v4, rfl, hown, hb⟩
  obtain ⟨va, vo, rfl, ha, ho, -, -⟩ := hown.tx
  obtain ⟨a3, c3, rfl, -, -⟩ := ha.shape
  obtain ⟨a4, c4, rfl, -, -⟩ := ho.shape
  have HB := Lib.hid (HB.out.trans (hb.mono HB.out.size))
  clear hb hown ha ho HQ1
  go_upto_region 6 with fail
  have hz := heap_alloc_new w4 (.cells #[.int .u32 t1.ver, .slice a3 t1.ins.length c3, .slice a4 t1.outs.length c4, .int .u32 t1.lock] 26)
  have hal : Below w4.heap.size w4 (w4.alloc (.cells #[.int .u32 t1.ver, .slice a3 t1.ins.length c3, .slice a4 t1.outs.length c4, .int .u32 t1.lock] 26)) := (Below.refl _ _).alloc (Nat.le_refl _) _
  obtain ⟨Y4, hY4⟩ : ∃ q, q = w4.heap.size := ⟨_, rfl⟩
  rw [← hY4] at hz ⊢
  generalize w4.alloc (.cells #[.int .u32 t1.ver, .slice a3 t1.ins.length c3, .slice a4 t1.outs.length c4, .int .u32 t1.lock] 26) = w5 at *
  have HB := Lib.hid (HB.out.trans (hal.mono HB.out.size))
  clear hz hal hY4
  go_wp2_with fail
  rw [← HS2.out]
  refine (HQ2.out w5).mono ?_
  rintro e w6 ⟨v6, rfl, hown, hb⟩
  obtain ⟨va, vo, rfl, ha, ho, -, -⟩ := hown.tx
  obtain ⟨a5, c5, rfl, -, -⟩ := ha.shape
  obtain ⟨a6, c6, rfl, -, -⟩ := ho.shape
  have HB := Lib.hid (HB.out.trans (hb.mono HB.out.size))
  clear hb hown ha ho HQ2
  go_upto_region 7 with fail
  have hz := heap_alloc_new w6 (.cells #[.int .u32 noTx.ver, .slice a5 noTx.ins.length c5, .slice a6 noTx.outs.length c6, .int .u32 noTx.lock] 26)
  have hal : Below w6.heap.size w6 (w6.alloc (.cells #[.int .u32 noTx.ver, .slice a5 noTx.ins.length c5, .slice a6 noTx.outs.length c6, .int .u32 noTx.lock] 26)) := (Below.refl _ _).alloc (Nat.le_refl _) _
  obtain ⟨Y6, hY6⟩ : ∃ q, q = w6.heap.size := ⟨_, rfl⟩
  rw [← hY6] at hz ⊢
  generalize w6.alloc (.cells #[.int .u32 noTx.ver, .slice a5 noTx.ins.length c5, .slice a6 noTx.outs.length c6, .int .u32 noTx.lock] 26) = w7 at *
  have HB := Lib.hid (HB.out.trans (hal.mono HB.out.size))
  clear hz hal hY6
  go_wp2_with fail
  refine (wakes6_any w7).mono ?_
  rintro e w8 ⟨rfl, hb⟩
  have HB := Lib.hid (HB.out.trans (hb.mono HB.out.size))
  clear hb
  go_wp2_with fail
  go_ret
  exact ⟨rfl, HB.out⟩
end Go.Proofs.Ytmcknjldimnaoaa
end

section
/-
  A transaction with one Out more, of no value: it may be, and how much larger it is. Conditions: its Outs are few, the script is short.
-/
namespace Go.Proofs.Ytmcknjldimnaoaa
open Go.RowKit Go.BigFrame
set_option linter.unusedVariables false
set_option linter.unusedSimpArgs false

def moreOut (t : PTx) (s : ByteArray) : PTx := ⟨t.ver, t.ins, t.outs ++ [(⟨0, s⟩ : POut)], t.lock⟩
theorem sumA_zero : ∀ (l : List Int) (s : Int), goodA s = true → (sumA s l).2 = 0 → (sumA s (l ++ [0])).2 = 0
  | [], s, hs, h => by
    show (sumA s [0]).2 = 0
    rw [sumA, if_pos (by rw [Int.add_zero, hs]; decide)]
    rfl
  | b :: r, s, hs, h => by
    rw [sumA] at h
    rw [List.cons_append, sumA]
    by_cases hg : (goodA b && goodA (s + b)) = true
    · rw [if_pos hg] at h ⊢
      exact sumA_zero r (s + b) (Bool.and_eq_true _ _ ▸ hg).2 h
    · rw [if_neg hg] at h
      exact absurd h (by decide)
theorem grow_whole {t : PTx} {s : ByteArray} (h : Whole t) (h8 : t.outs.length ≤ 8) (hs : s.size ≤ 40) : Whole (moreOut t s) := by
  obtain ⟨hc, hw⟩ := counts_parts h.counts
  obtain ⟨hl1, hl2⟩ := long_parts h.long
  refine ⟨counts_of ⟨hc.1, hc.2.1, ?_, ?_⟩ hw, ?_, formed_of (formed_parts h.formed), h.dup, ?_⟩
  · show 1 ≤ (t.outs ++ [(⟨0, s⟩ : POut)]).length
    rw [List.length_append]; have := hc.2.2.1; omega
  · show (t.outs ++ [(⟨0, s⟩ : POut)]).length ≤ 256
    rw [List.length_append]; simp; omega
  · unfold longOf
    rw [Bool.or_eq_false_iff]
    refine ⟨?_, hl2⟩
    show (t.outs ++ [(⟨0, s⟩ : POut)]).any _ = false
    rw [List.any_append, hl1]
    simp
    exact hs
  · show (sumA 0 ((t.outs ++ [(⟨0, s⟩ : POut)]).map (·.val))).2 = 0
    rw [List.map_append]
    exact sumA_zero _ 0 (by decide) h.sum
theorem vint_one {n : Nat} (h : n < 253) : (vintL n).length = 1 := by
  unfold vintL
  rw [if_pos h, leB_length]
theorem grow_enc (t : PTx) (s : ByteArray) (b : Bool) (h8 : t.outs.length ≤ 8) (hs : s.size ≤ 40) : (encL (moreOut t s) b).length = (encL t b).length + (9 + s.size) := by
  unfold encL
  show (leB t.ver 4 ++ markL b ++ vintL t.ins.length ++ t.ins.flatMap inB ++ vintL (t.outs ++ [(⟨0, s⟩ : POut)]).length ++ (t.outs ++ [(⟨0, s⟩ : POut)]).flatMap outB ++ witsL b t.ins ++ leB t.lock 4).length = _
  have h1 : (outB ⟨0, s⟩).length = 9 + s.size := by
    unfold outB sizedL
    dsimp only
    rw [List.length_append, List.length_append, leB_length, vint_one (by omega), data_len]
    omega
  rw [List.flatMap_append]
  simp only [List.length_append, vint_one (show t.outs.length + 1 < 253 by omega), List.length_singleton, vint_one (show t.outs.length < 253 by omega), List.flatMap_cons, List.flatMap_nil, List.append_nil, h1]
  omega
theorem grow_weigh {t : PTx} {s : ByteArray} (h : checkOf t = 0) (h8 : t.outs.length ≤ 8) (hs : s.size ≤ 40) : weightE (moreOut t s) = weightE t + 4 * (9 + s.size) := by
  have h1 : weightE t = weigh t := if_pos h
  have h2 : weightE (moreOut t s) = weigh (moreOut t s) := if_pos ((check_sum (grow_whole (whole_of h) h8 hs).counts (grow_whole (whole_of h) h8 hs).long (grow_whole (whole_of h) h8 hs).formed (grow_whole (whole_of h) h8 hs).dup).trans (grow_whole (whole_of h) h8 hs).sum)
  rw [h1, h2]
  unfold weigh
  have hw : witOf (moreOut t s) = witOf t := rfl
  rw [hw, grow_enc t s false h8 hs, grow_enc t s (witOf t) h8 hs]
  omega
theorem grow_check {t : PTx} {s : ByteArray} (h : checkOf t = 0) (h8 : t.outs.length ≤ 8) (hs : s.size ≤ 40) : checkOf (moreOut t s) = 0 := by
  have hw := grow_whole (whole_of h) h8 hs
  exact (check_sum hw.counts hw.long hw.formed hw.dup).trans hw.sum
theorem out_app2 {wr : World} {base : Nat} {a : Option Addr} {n c : Nat} {l : List POut} (h1 : OutsOwn base wr (.slice a n c) l) (hl : l.length = n) (hn : n ≤ 1000) (hb : base ≤ wr.heap.size) (x : POut) (hx : OkOut x) :
    ∃ a' c' w', (Builtin.append_ #[24, 24] 24 #[.slice a n c, .slice (some ⟨wr.heap.size, 0, none⟩) 1 1]).run Try.prog (wr.alloc (.cells #[.int .i64 x.val, .string x.script] 59)) = .ok (.slice a' (n + 1) c') w' ∧
      Below base wr w' ∧ OutsOwn base w' (.slice a' (n + 1) c') (l ++ [x]) ∧ (∀ k, k < wr.heap.size → (Value.slice a n c).ownBlock ≠ some k → w'.heap[k]? = wr.heap[k]?) ∧ ((Value.slice a' (n + 1) c').ownBlock = (Value.slice a n c).ownBlock ∨ (Value.slice a' (n + 1) c').ownBlock = some (wr.heap.size + 1)) := by
  subst hl
  obtain ⟨i0, hi, hz0, hz1, hz2⟩ := info_parts info_out
  obtain ⟨a3, c3, w3, hrun, hown3, hb3, hg3, hv3⟩ := append_one (P := Try.prog) Try.underlying24 hi hz0 hz1 hz2 rfl h1.row #[.int .i64 x.val, .string x.script] rfl (by simp [Value.oneCell']) (by rw [maxLen_eq]; omega) (by omega) hb (ty := 24)
  refine ⟨a3, c3, w3, hrun, hb3, ⟨?_, fun y hy => ?_⟩, fun k hk hne => ?_, hv3⟩
  · have e : outsCells (l ++ [x]) = outsCells l ++ [.int .i64 x.val, .string x.script] := by simp [outsCells, outRow]
    rw [e, List.length_append]
    exact hown3
  · rcases List.mem_append.1 hy with hy | hy
    · exact h1.ok y hy
    · rw [List.mem_singleton.1 hy]; exact hx
  · rw [hg3.block k (by simp; omega) (fun e => hne e.symm)]
    exact Below.heap_alloc _ _ k hk
set_option maxRecDepth 100000 in
theorem open_out {H : Type} {enc : TypeId × Value → H} {w : World} {v : Value} {d : DataW H} {ps : List MemPlace} (hv : Value.okWide Try.prog w .any 0 59 v) (h : DataW.Trod enc Try.prog w 0 (fun _ => true) true 59 v d ps) :
    ∃ x : POut, v = .agg #[.int .i64 x.val, .string x.script] ∧ x.script.size ≤ 9223372036854775807 := by
  obtain ⟨cs, rfl, -⟩ := Go.WideShapes.okWide_struct Try.underlying59 hv
  obtain ⟨fuel, hf⟩ := h
  obtain ⟨x, h1, h2, h3⟩ := rp_of_out hf
  refine ⟨x, ?_, h3⟩
  have h4 : cs.toList = [.int .i64 x.val, .string x.script] := h1
  have h5 : cs = #[.int .i64 x.val, .string x.script] := by apply Array.ext'; rw [h4]
  rw [h5]
end Go.Proofs.Ytmcknjldimnaoaa
end

section
/-
  IdentGrows: the walk. Conditions: none.
-/
namespace Go.Proofs.Ytmcknjldimnaoaa
open Go.RowKit Go.BigFrame
set_option linter.unusedVariables false
set_option linter.unusedSimpArgs false

theorem two_new' (w : World) (o1 o2 : Obj) : ((w.alloc o1).alloc o2).heap[w.heap.size]? = some o1 ∧ ((w.alloc o1).alloc o2).heap[w.heap.size + 1]? = some o2 ∧ Below w.heap.size w ((w.alloc o1).alloc o2) := by
  have h1 := heap_alloc_new w o1
  have h2 := heap_alloc_new (w.alloc o1) o2
  have hs : (w.alloc o1).heap.size = w.heap.size + 1 := by simp
  have hb : Below (w.alloc o1).heap.size (w.alloc o1) ((w.alloc o1).alloc o2) := (Below.refl _ _).alloc (Nat.le_refl _) o2
  rw [hs] at h2
  exact ⟨(hb.block _ (Array.getElem?_eq_some_iff.1 h1).1).trans h1, h2, ((Below.refl _ _).alloc (Nat.le_refl _) o1).trans (hb.mono (by omega))⟩
theorem TxOwn.set_low {base : Nat} {w : World} {v : Value} {t : PTx} (h : TxOwn base w v t) (p : Addr) (u : Value) (hp : p.block < base) : TxOwn base (w.setCell p u) v t := by
  obtain ⟨⟨vi, vo, ps, rfl, hps, h1, h2, h3⟩, h4, h5⟩ := h
  refine ⟨⟨vi, vo, ps, rfl, hps, h1.store _ _ (fun hh => by have := (h1.lt hh).1; omega), h2.kept fun b hh => ?_, h3⟩, h4, h5⟩
  have := (h2.row.lt b hh).1
  exact Below.heap_setCell _ _ _ _ (by omega)
/-- The copy with one Out more, its row stored anew in its box. -/
theorem grow_own {base A m c c2 : Nat} {w w' : World} {vi : Value} {a a2 : Option Addr} {t : PTx} {x : POut} {ps : List (PIn × Value)} (hA : base ≤ A) (hlt : ∀ b, InsHas vi ps b → b < A) (hsz : A < w.heap.size)
    (hp : t.ins = ps.map (·.1)) (h1 : InsOwn base w vi ps) (h3 : ∀ b, (Value.slice a m c).ownBlock = some b → ¬ InsHas vi ps b) (hv : t.ver < 4294967296) (hl : t.lock < 4294967296)
    (h2 : OutsOwn base w' (.slice a2 (m + 1) c2) (t.outs ++ [x])) (hk : ∀ k, k < w.heap.size → (Value.slice a m c).ownBlock ≠ some k → w'.heap[k]? = w.heap[k]?) (hr : ∀ b, (Value.slice a2 (m + 1) c2).ownBlock = some b → b ≠ A) (u : Value) :
    TxAt (w'.setCell ⟨A, 2, none⟩ u) (.agg #[.int .u32 t.ver, vi, .slice a2 (m + 1) c2, .int .u32 t.lock]) ⟨t.ver, t.ins, t.outs ++ [x], t.lock⟩ := by
  have hi' : InsOwn base (w'.setCell ⟨A, 2, none⟩ u) vi ps := by
    refine (h1.kept fun b hh => hk b (h1.lt hh).2 (fun e => h3 b e hh)).store _ _ (fun hh => ?_)
    have := hlt _ hh
    dsimp only at this
    omega
  have ho' : OutsOwn base (w'.setCell ⟨A, 2, none⟩ u) (.slice a2 (m + 1) c2) (t.outs ++ [x]) := h2.kept fun b hh => Below.heap_setCell _ _ _ _ (fun e => hr b hh e)
  exact ⟨_, _, rfl, hp ▸ hi'.sl, ho'.sl, hv, hl⟩
theorem cap_extract40 (s : ByteArray) (m : Nat) (h : m = min s.size 40) : s.extract 0 m = capB 40 s := by
  unfold capB
  split
  · rw [h]; congr 1; omega
  · rw [h, show min s.size 40 = s.size by omega]
    apply ByteArray.ext
    simp
set_option maxRecDepth 100000 in
set_option maxHeartbeats 4000000 in
theorem identGrows_walk (v : Value) (t0 : PTx) (ov : Value) (x : POut) (w : World) (hv : TxAt w v t0) (hx : ov = .agg #[.int .i64 x.val, .string x.script] ∧ x.script.size ≤ 9223372036854775807) : Calls Try.prog 11 #[v, ov] w (BIs true w) := by
  obtain ⟨rfl, hxs⟩ := hx
  have hv' := hv
  obtain ⟨va, vo, rfl, hia, hob, -, -⟩ := hv
  obtain ⟨a, c, rfl, -, -⟩ := hia.shape
  obtain ⟨a', c', rfl, -, -⟩ := hob.shape
  obtain ⟨l1, hl1⟩ : ∃ n, n = t0.ins.length := ⟨_, rfl⟩
  obtain ⟨l2, hl2⟩ : ∃ n, n = t0.outs.length := ⟨_, rfl⟩
  rw [← hl1, ← hl2] at hv' ⊢
  have HV := Lib.hid hv'
  clear hia hob hl1 hl2 hv'
  go_enter Try.func11, Try.ntmps11
  go_upto_region 1 with fail
  have h2 := two_new' w (.cells #[.int .u32 t0.ver, .slice a l1 c, .slice a' l2 c', .int .u32 t0.lock] 26) (.cells #[.int .i64 x.val, .string x.script] 59)
  obtain ⟨X, hX⟩ : ∃ q, q = w.heap.size := ⟨_, rfl⟩
  obtain ⟨h2a, h2b, hal⟩ := h2
  rw [← hX] at h2a h2b ⊢
  generalize (w.alloc (.cells #[.int .u32 t0.ver, .slice a l1 c, .slice a' l2 c', .int .u32 t0.lock] 26)).alloc (.cells #[.int .i64 x.val, .string x.script] 59) = w0 at *
  have p0 : w0.cell? ⟨X, 0, none⟩ = some (.int .u32 t0.ver) := cell_at h2a
  have p1 : w0.cell? ⟨X, 1, none⟩ = some (.slice a l1 c) := cell_at h2a
  have p2 : w0.cell? ⟨X, 2, none⟩ = some (.slice a' l2 c') := cell_at h2a
  have p3 : w0.cell? ⟨X, 3, none⟩ = some (.int .u32 t0.lock) := cell_at h2a
  have HO := Lib.hid h2b
  have hz := h2a
  clear h2a h2b
  have HB0 := Lib.hid hal
  have HV0 := Lib.hid (HV.out.below hal)
  have HXS := Lib.hid hX
  have HXL := Lib.hid (Array.getElem?_eq_some_iff.1 HO.out).1
  clear hz hal hX HV
  go_wp2_with fail
  refine (fit_any _ t0 w0 HV0.out).mono ?_
  rintro en w1 ⟨vu, u, rfl, hown, hfit, hb⟩
  obtain ⟨⟨vi1, vo1, ps1, rfl, hp1, hi1, ho1, -⟩, -, -⟩ := id hown
  obtain ⟨ai, ci, e1, -, -⟩ := ownsRow_shape hi1.row
  obtain ⟨ao, co, e2, -, -⟩ := ownsRow_shape ho1.row
  obtain ⟨n1, hn1⟩ : ∃ n, n = ps1.length := ⟨_, rfl⟩
  obtain ⟨m1, hm1⟩ : ∃ n, n = u.outs.length := ⟨_, rfl⟩
  rw [← hn1] at e1
  rw [← hm1] at e2
  subst e1
  subst e2
  have HN1 := Lib.hid (show n1 = u.ins.length ∧ m1 = u.outs.length by rw [hp1, List.length_map]; exact ⟨hn1, hm1⟩)
  have HB1 := Lib.hid (HB0.out.trans (hb.mono HB0.out.size))
  have HO := Lib.hid ((hb.block (X + 1) (Array.getElem?_eq_some_iff.1 HO.out).1).trans HO.out)
  have HOU := Lib.hid (show TxOwn w0.heap.size w1 (.agg #[.int .u32 u.ver, .slice ai n1 ci, .slice ao m1 co, .int .u32 u.lock]) u from hown)
  have HF := Lib.hid hfit
  have HS01 := Lib.hid (show w.heap.size ≤ w0.heap.size ∧ w0.heap.size ≤ w1.heap.size from ⟨HB0.out.size, hb.size⟩)
  clear hown hfit hi1 ho1 hp1 hn1 hm1 hb p0 p1 p2 p3 HV0 HB0
  go_upto_region 2 with fail
  have hz := heap_alloc_new w1 (.cells #[.int .u32 u.ver, .slice ai n1 ci, .slice ao m1 co, .int .u32 u.lock] 26)
  have hal : Below w1.heap.size w1 (w1.alloc (.cells #[.int .u32 u.ver, .slice ai n1 ci, .slice ao m1 co, .int .u32 u.lock] 26)) := (Below.refl _ _).alloc (Nat.le_refl _) _
  obtain ⟨A5, hA5⟩ : ∃ q, q = w1.heap.size := ⟨_, rfl⟩
  rw [← hA5] at hz ⊢
  generalize w1.alloc (.cells #[.int .u32 u.ver, .slice ai n1 ci, .slice ao m1 co, .int .u32 u.lock] 26) = w2 at *
  have u0 : w2.cell? ⟨A5, 0, none⟩ = some (.int .u32 u.ver) := cell_at hz
  have u1 : w2.cell? ⟨A5, 1, none⟩ = some (.slice ai n1 ci) := cell_at hz
  have u2 : w2.cell? ⟨A5, 2, none⟩ = some (.slice ao m1 co) := cell_at hz
  have u3 : w2.cell? ⟨A5, 3, none⟩ = some (.int .u32 u.lock) := cell_at hz
  have HB := Lib.hid (HB1.out.trans (hal.mono HB1.out.size))
  have HU := Lib.hid (HOU.out.tx.below hal)
  have H1 := Lib.hid hal
  have HA5 := Lib.hid hA5
  have HLT := Lib.hid (show A5 < w2.heap.size from (Array.getElem?_eq_some_iff.1 hz).1)
  clear hz hal hA5 HB1
  have HFL := Lib.hid (fit_len HF.out)
  have HNU := Lib.hid (tx_nums HU.out)
  have HOW := Lib.hid (show w1.heap[X + 1]? = _ from HO.out)
  have HO := Lib.hid ((H1.out.block (X + 1) (Array.getElem?_eq_some_iff.1 HOW.out).1).trans HOW.out)
  by_cases h0 : checkOf u = 0
  rotate_left
  · have HE := Lib.hid (iweight_any _ u w2 HU.out HFL.out)
    have HE2 := Lib.hid (fun y h => iid_any (.agg #[.int .u32 u.ver, .slice ai n1 ci, .slice ao m1 co, .int .u32 u.lock]) u y h HFL.out)
    obtain ⟨s1, hs1⟩ : ∃ s, s = weightE u := ⟨_, rfl⟩
    obtain ⟨s2, hs2⟩ : ∃ s, s = idE u false := ⟨_, rfl⟩
    rw [← hs1] at HE
    rw [← hs2] at HE2
    clear hs1 hs2
    generalize checkOf u = ck at *
    have hne : (ck != 0) = true := by simpa using h0
    have hne2 : (ck == 0) = false := by simpa using h0
    go_wp2_with fail
    refine (HE.out).mono ?_
    rintro e w3 ⟨rfl, hb⟩
    replace u0 := below_cells hb _ _ u0
    replace u1 := below_cells hb _ _ u1
    replace u2 := below_cells hb _ _ u2
    replace u3 := below_cells hb _ _ u3
    have HB := Lib.hid (HB.out.trans (hb.mono HB.out.size))
    have HU := Lib.hid (HU.out.below hb)
    clear hb
    go_wp2_with fail
    refine (HE2.out w3 HU.out).mono ?_
    rintro e w4 ⟨rfl, hb⟩
    have HB := Lib.hid (HB.out.trans (hb.mono HB.out.size))
    clear hb
    go_wp2_with fail
    refine (wakes7_any w4).mono ?_
    rintro e w5 ⟨rfl, hb⟩
    have HB := Lib.hid (HB.out.trans (hb.mono HB.out.size))
    clear hb
    go_wp2_with fail
    go_ret
    exact ⟨rfl, HB.out⟩
  have hW := whole_of h0
  have hok := okP_of h0 HNU.out
  obtain ⟨sc, hsc⟩ : ∃ s : ByteArray, s = capB 40 x.script := ⟨_, rfl⟩
  have hscl : sc.size ≤ 40 := by rw [hsc]; exact capB_le 40 _
  have h8 : u.outs.length ≤ 8 := HF.out.few.2
  have hgc := grow_check h0 h8 hscl
  have hgw := grow_weigh h0 h8 hscl
  obtain ⟨wt, hwt⟩ : ∃ s, s = weightE u := ⟨_, rfl⟩
  have hwl := weightE_le u
  rw [← hwt] at hgw hwl
  obtain ⟨hwl0, hwl1⟩ := hwl
  obtain ⟨s1, hs1⟩ : ∃ s, s = encE u (witOf u) := ⟨_, rfl⟩
  obtain ⟨sid, hsid⟩ : ∃ s, s = idE u false := ⟨_, rfl⟩
  obtain ⟨sw, hsw⟩ : ∃ s, s = idE u (witOf u) := ⟨_, rfl⟩
  have e1 : s1 = bL (encL u (witOf u)) := hs1.trans (if_pos h0)
  have hsz : s1.size ≤ 200000 := by rw [e1, bL_size]; exact encL_le (enc_of hW) _
  have d1 : decZ s1.data.toList = (u, s1.size, 0) := by rw [e1, bL_list, dec_back hok h0, bL_size]
  have hq1 := fun y => decode_any s1 y (by omega)
  rw [d1] at hq1
  have HQ1 := Lib.hid hq1
  have HE := Lib.hid (iweight_any _ u w2 HU.out HFL.out)
  have HE2 := Lib.hid (fun (v : Value) (y : World) (h : TxAt y v u) => iid_any v u y h HFL.out)
  have HE3 := Lib.hid (fun (v : Value) (y : World) (h : TxAt y v u) => iwhole_any v u y h HFL.out)
  have HE4 := Lib.hid (fun (v : Value) (y : World) (h : TxAt y v u) => wenc_any v u y h HFL.out)
  have HE5 := Lib.hid (fun (v : Value) (y : World) (h : TxAt y v (moreOut u sc)) => iweight_any v (moreOut u sc) y h (by show (u.outs ++ [_]).length ≤ 1000; rw [List.length_append]; simp; omega))
  rw [← hwt, h0] at HE
  simp only [← hsid, h0] at HE2
  simp only [← hsw, h0] at HE3
  simp only [← hs1, h0] at HE4
  simp only [hgc, hgw] at HE5
  have hscI : (sc.size : Int) ≤ 40 := by omega
  have HSC := Lib.hid hsc
  clear hW hok hgc hgw hwt hs1 hsid hsw e1 hsz d1 hq1 h0 hsc
  go_wp2_with fail
  refine (HE.out).mono ?_
  rintro e w3 ⟨rfl, hb⟩
  replace u0 := below_cells hb _ _ u0
  replace u1 := below_cells hb _ _ u1
  replace u2 := below_cells hb _ _ u2
  replace u3 := below_cells hb _ _ u3
  have HB := Lib.hid (HB.out.trans (hb.mono HB.out.size))
  have HU := Lib.hid (HU.out.below hb)
  have H1 := Lib.hid (H1.out.trans (hb.mono H1.out.size))
  clear hb
  go_wp2_with fail
  refine (HE2.out _ w3 HU.out).mono ?_
  rintro e w4 ⟨rfl, hb⟩
  replace u0 := below_cells hb _ _ u0
  replace u1 := below_cells hb _ _ u1
  replace u2 := below_cells hb _ _ u2
  replace u3 := below_cells hb _ _ u3
  have HB := Lib.hid (HB.out.trans (hb.mono HB.out.size))
  have HU := Lib.hid (HU.out.below hb)
  have H1 := Lib.hid (H1.out.trans (hb.mono H1.out.size))
  clear hb
  have HO := Lib.hid ((H1.out.block (X + 1) (Array.getElem?_eq_some_iff.1 HOW.out).1).trans HOW.out)
  obtain ⟨m, hm⟩ : ∃ m, m = min x.script.size 40 := ⟨_, rfl⟩
  have hmn : min (x.script.size : Int) 40 = (m : Int) := by omega
  have hm0 : (0 : Int) ≤ (m : Int) := by omega
  have hm1 : (m : Int) ≤ (x.script.size : Int) := by omega
  have HMM := Lib.hid (show x.script.extract 0 m = sc by rw [HSC.out]; exact cap_extract40 _ m hm)
  clear hm
  have o0 : w4.cell? ⟨X + 1, 0, none⟩ = some (.int .i64 x.val) := cell_at HO.out
  have o1 : w4.cell? ⟨X + 1, 1, none⟩ = some (.string x.script) := cell_at HO.out
  have of0 : w4.frozen? ⟨X + 1, 0, none⟩ = false := free_at HO.out
  have of1 : w4.frozen? ⟨X + 1, 1, none⟩ = false := free_at HO.out
  have HXW := Lib.hid (show w.heap.size ≤ X + 1 ∧ X + 1 < w0.heap.size from ⟨by have := HXS.out; omega, HXL.out⟩)
  have HOU4 := Lib.hid (HOU.out.below H1.out)
  go_upto_region 7 with fail
  rw [HMM.out]
  have hO5 := heap_setCell_at (j := 1) (u := .string sc) (heap_setCell_at (j := 0) (u := .int .i64 0) HO.out)
  have hU5 := (HOU4.out.set_low ⟨X + 1, 0, none⟩ (.int .i64 0) HXW.out.2).set_low ⟨X + 1, 1, none⟩ (.string sc) HXW.out.2
  have hB5 := (HB.out.setCell (p := ⟨X + 1, 0, none⟩) HXW.out.1 (.int .i64 0)).setCell (p := ⟨X + 1, 1, none⟩) HXW.out.1 (.string sc)
  have hne : A5 ≠ X + 1 := by have := HA5.out; have := HXW.out; have := HS01.out; omega
  have hge : ∀ (j : Nat) (y : Value), w4.cell? ⟨A5, j, none⟩ = some y → ((w4.setCell ⟨X + 1, 0, none⟩ (.int .i64 0)).setCell ⟨X + 1, 1, none⟩ (.string sc)).cell? ⟨A5, j, none⟩ = some y := fun j y h =>
    (World.cell?_setCell_other _ _ _ _ (fun e => hne (congrArg Addr.block e).symm)).trans ((World.cell?_setCell_other _ _ _ _ (fun e => hne (congrArg Addr.block e).symm)).trans h)
  replace u0 := hge _ _ u0
  replace u1 := hge _ _ u1
  replace u2 := hge _ _ u2
  replace u3 := hge _ _ u3
  clear hge hmn hm0 hm1 o0 o1 of0 of1 HO HOW HOU HOU4 H1
  generalize (w4.setCell ⟨X + 1, 0, none⟩ (.int .i64 0)).setCell ⟨X + 1, 1, none⟩ (.string sc) = w5 at *
  have HO := Lib.hid (show w5.heap[X + 1]? = some (.cells #[.int .i64 0, .string sc] 59 (0, 0)) from hO5)
  have HU := Lib.hid hU5.tx
  have HB := Lib.hid hB5
  have HU5 := HU
  have HO5 := HO
  have HB9 := HB
  have HA55 := Lib.hid (show A5 < w5.heap.size from World.block_lt_of_cell? _ _ u0)
  clear hO5 hU5 hB5 hne
  go_wp2_with fail
  refine (copy_any _ u w5 HU.out (Nat.le_trans HF.out.few.1 (by decide)) HFL.out (fun x hx => Nat.le_trans (HF.out.ins x hx).len (by decide))).mono ?_
  rintro en w6 ⟨vv, rfl, hown, hb⟩
  obtain ⟨⟨vi2, vo2, ps2, rfl, hp2, hi2, ho2, h32⟩, -, -⟩ := hown
  obtain ⟨ai2, ci2, e1, -, -⟩ := ownsRow_shape hi2.row
  obtain ⟨ao2, co2, e2, -, -⟩ := ownsRow_shape ho2.row
  have HPL := Lib.hid (show ps2.length = n1 ∧ u.outs.length = m1 from ⟨by rw [HN1.out.1, hp2, List.length_map], HN1.out.2.symm⟩)
  rw [HPL.out.1] at e1
  rw [HPL.out.2] at e2
  subst e1
  subst e2
  replace u0 := below_cells hb _ _ u0
  replace u1 := below_cells hb _ _ u1
  replace u2 := below_cells hb _ _ u2
  replace u3 := below_cells hb _ _ u3
  have HB := Lib.hid (HB.out.trans (hb.mono HB.out.size))
  have HU := Lib.hid (HU.out.below hb)
  have HO := Lib.hid ((hb.block (X + 1) (Array.getElem?_eq_some_iff.1 HO.out).1).trans HO.out)
  have HI2 := Lib.hid hi2
  have HO2 := Lib.hid ho2
  have HAP := Lib.hid h32
  have HP2 := Lib.hid hp2
  have HB56 := Lib.hid hb
  clear hi2 ho2 h32 hp2 hb
  go_upto_region 8 with fail
  have hz := heap_alloc_new w6 (.cells #[.int .u32 u.ver, .slice ai2 n1 ci2, .slice ao2 m1 co2, .int .u32 u.lock] 26)
  have hal : Below w6.heap.size w6 (w6.alloc (.cells #[.int .u32 u.ver, .slice ai2 n1 ci2, .slice ao2 m1 co2, .int .u32 u.lock] 26)) := (Below.refl _ _).alloc (Nat.le_refl _) _
  obtain ⟨A10, hA10⟩ : ∃ q, q = w6.heap.size := ⟨_, rfl⟩
  rw [← hA10] at hz ⊢
  generalize w6.alloc (.cells #[.int .u32 u.ver, .slice ai2 n1 ci2, .slice ao2 m1 co2, .int .u32 u.lock] 26) = w7 at *
  have c0 : w7.cell? ⟨A10, 0, none⟩ = some (.int .u32 u.ver) := cell_at hz
  have c1 : w7.cell? ⟨A10, 1, none⟩ = some (.slice ai2 n1 ci2) := cell_at hz
  have c2 : w7.cell? ⟨A10, 2, none⟩ = some (.slice ao2 m1 co2) := cell_at hz
  have c3 : w7.cell? ⟨A10, 3, none⟩ = some (.int .u32 u.lock) := cell_at hz
  have hlt7 : A10 < w7.heap.size := (Array.getElem?_eq_some_iff.1 hz).1
  have hb57 := HB56.out.trans (hal.mono HB56.out.size)
  replace u0 := below_cells hal _ _ u0
  replace u1 := below_cells hal _ _ u1
  replace u2 := below_cells hal _ _ u2
  replace u3 := below_cells hal _ _ u3
  have HO := Lib.hid ((hal.block (X + 1) (Array.getElem?_eq_some_iff.1 HO.out).1).trans HO.out)
  have HU := Lib.hid (HU.out.below hal)
  have HB := Lib.hid (HB.out.trans (hal.mono HB.out.size))
  obtain ⟨ar, cr, w8, hrun, hb78, hown8, hk8, hv8⟩ := out_app2 (HO2.out.below hal) HPL.out.2 (by have := HPL.out.2; omega) hb57.size ⟨0, sc⟩ ⟨⟨by show (-9223372036854775808 : Int) ≤ 0; decide, by show (0 : Int) ≤ 9223372036854775807; decide⟩, by show sc.size ≤ maxLen; rw [maxLen_eq]; omega⟩
  have hrown := hown8.row.lt
  have hbr : ∀ b, (Value.slice ao2 m1 co2).ownBlock = some b → b < A10 := fun b e => by have := (HO2.out.row.lt b e).2; omega
  have hbi : ∀ b, InsHas (.slice ai2 n1 ci2) ps2 b → b < A10 := fun b e => by have := (HI2.out.lt e).2; omega
  have hr8 : ∀ b, (Value.slice ar (m1 + 1) cr).ownBlock = some b → b ≠ A10 := fun b e => by
    rcases hv8 with h | h
    · have := hbr b (h ▸ e); omega
    · rw [h] at e; have := Option.some.inj e; omega
  have hg10 : w5.heap.size ≤ A10 := by rw [hA10]; exact HB56.out.size
  have hz8 := (hk8 A10 hlt7 (fun e => by have := hbr _ e; omega)).trans hz
  have htv := grow_own (u := .slice ar (m1 + 1 : Nat) cr) hg10 hbi hlt7 HP2.out (HI2.out.below hal) HAP.out HNU.out.1 HNU.out.2.1 hown8 hk8 hr8
  have hb59 := (hb57.trans hb78).setCell (p := ⟨A10, 2, none⟩) hg10 (.slice ar (m1 + 1 : Nat) cr)
  have hb89 : Below w5.heap.size w7 (w8.setCell ⟨A10, 2, none⟩ (.slice ar (m1 + 1 : Nat) cr)) := hb78.setCell hg10 _
  have HO7 := HO
  have hz9 := heap_setCell_at (j := 2) (u := .slice ar (m1 + 1 : Nat) cr) hz8
  have d2 : w8.cell? ⟨A10, 2, none⟩ = some (.slice ao2 m1 co2) := cell_at hz8
  have df2 : w8.frozen? ⟨A10, 2, none⟩ = false := free_at hz8
  have hA5 : A5 < w5.heap.size := HA55.out
  have H89 := Lib.hid (show ∀ (p : Addr) (y : Value), p.block < w5.heap.size → w7.cell? p = some y → (w8.setCell ⟨A10, 2, none⟩ (.slice ar (m1 + 1 : Nat) cr)).cell? p = some y from fun p y hp h => by
    unfold World.cell? at h ⊢
    rw [hb89.block p.block hp]
    exact h)
  have HZ9 := Lib.hid hz9
  have HTV := Lib.hid htv
  have HB := Lib.hid (HB9.out.trans (hb59.mono HB9.out.size))
  have HU9 := Lib.hid (HU5.out.below hb59)
  have HO9 := Lib.hid ((hb59.block (X + 1) (Array.getElem?_eq_some_iff.1 HO5.out).1).trans HO5.out)
  have HR := Lib.hid (show (Builtin.append_ #[24, 24] 24 #[.slice ao2 m1 co2, .slice (some ⟨w7.heap.size, 0, none⟩) 1 1]).run Try.prog (w7.alloc (.cells #[.int .i64 0, .string sc] 59)) = .ok (.slice ar (m1 + 1) cr) w8 from hrun)
  have o0 : w7.cell? ⟨X + 1, 0, none⟩ = some (.int .i64 0) := cell_at HO.out
  have o1 : w7.cell? ⟨X + 1, 1, none⟩ = some (.string sc) := cell_at HO.out
  clear hz hal hlt7 hb57 hrun hb78 hown8 hk8 hv8 hrown hbr hbi hr8 hA10 hg10 hz8 htv hb59 hz9 hb89
  go_upto_region 9 with (at_builtin; refine wpList_append_run rfl (.tmp 59) (.tmp 61) 24 24 rfl rfl rfl HR.out ?_)
  generalize w8.setCell ⟨A10, 2, none⟩ (.slice ar (m1 + 1 : Nat) cr) = w9 at *
  replace u0 := H89.out _ _ hA5 u0
  replace u1 := H89.out _ _ hA5 u1
  replace u2 := H89.out _ _ hA5 u2
  replace u3 := H89.out _ _ hA5 u3
  replace c0 : w9.cell? ⟨A10, 0, none⟩ = some (.int .u32 u.ver) := cell_at HZ9.out
  replace c1 : w9.cell? ⟨A10, 1, none⟩ = some (.slice ai2 n1 ci2) := cell_at HZ9.out
  replace c2 : w9.cell? ⟨A10, 2, none⟩ = some (.slice ar (m1 + 1 : Nat) cr) := cell_at HZ9.out
  replace c3 : w9.cell? ⟨A10, 3, none⟩ = some (.int .u32 u.lock) := cell_at HZ9.out
  replace o0 : w9.cell? ⟨X + 1, 0, none⟩ = some (.int .i64 0) := cell_at HO9.out
  replace o1 : w9.cell? ⟨X + 1, 1, none⟩ = some (.string sc) := cell_at HO9.out
  have HU := HU9
  clear H89 HZ9 HO9 HU9 HR d2 df2 hA5 HI2 HO2 HAP HP2 HPL HB56 HO5 HU5 HB9 HA55 HO HO7
  go_wp2_with fail
  refine (HE5.out _ w9 HTV.out).mono ?_
  rintro e w10 ⟨rfl, hb⟩
  replace u0 := below_cells hb _ _ u0
  replace u1 := below_cells hb _ _ u1
  replace u2 := below_cells hb _ _ u2
  replace u3 := below_cells hb _ _ u3
  replace o1 := below_cells hb _ _ o1
  have HB := Lib.hid (HB.out.trans (hb.mono HB.out.size))
  have HU := Lib.hid (HU.out.below hb)
  clear hb
  clear HTV HE5 c0 c1 c2 c3
  go_wp2_with fail
  refine (HE4.out _ w10 HU.out).mono ?_
  rintro e w11 ⟨rfl, hb⟩
  replace u0 := below_cells hb _ _ u0
  replace u1 := below_cells hb _ _ u1
  replace u2 := below_cells hb _ _ u2
  replace u3 := below_cells hb _ _ u3
  replace o1 := below_cells hb _ _ o1
  have HB := Lib.hid (HB.out.trans (hb.mono HB.out.size))
  have HU := Lib.hid (HU.out.below hb)
  clear hb
  clear HE4
  go_wp2_with fail
  refine (HQ1.out w11).mono ?_
  rintro e w12 ⟨v, rfl, hown, hb⟩
  have htx := hown.tx
  obtain ⟨va, vo, rfl, ha, ho, -, -⟩ := id htx
  obtain ⟨a1, c1, rfl, -, -⟩ := ha.shape
  obtain ⟨a2, c2, rfl, -, -⟩ := ho.shape
  rw [← HN1.out.1, ← HN1.out.2] at htx ⊢
  have HT := Lib.hid htx
  replace u0 := below_cells hb _ _ u0
  replace u1 := below_cells hb _ _ u1
  replace u2 := below_cells hb _ _ u2
  replace u3 := below_cells hb _ _ u3
  replace o1 := below_cells hb _ _ o1
  have HB := Lib.hid (HB.out.trans (hb.mono HB.out.size))
  have HU := Lib.hid (HU.out.below hb)
  clear hb hown ha ho htx HQ1
  go_upto_region 12 with fail
  have hz := heap_alloc_new w12 (.cells #[.int .u32 u.ver, .slice a1 n1 c1, .slice a2 m1 c2, .int .u32 u.lock] 26)
  have hal : Below w12.heap.size w12 (w12.alloc (.cells #[.int .u32 u.ver, .slice a1 n1 c1, .slice a2 m1 c2, .int .u32 u.lock] 26)) := (Below.refl _ _).alloc (Nat.le_refl _) _
  obtain ⟨A15, hA15⟩ : ∃ q, q = w12.heap.size := ⟨_, rfl⟩
  rw [← hA15] at hz ⊢
  generalize w12.alloc (.cells #[.int .u32 u.ver, .slice a1 n1 c1, .slice a2 m1 c2, .int .u32 u.lock] 26) = w13 at *
  have d0 : w13.cell? ⟨A15, 0, none⟩ = some (.int .u32 u.ver) := cell_at hz
  have d1 : w13.cell? ⟨A15, 1, none⟩ = some (.slice a1 n1 c1) := cell_at hz
  have d2 : w13.cell? ⟨A15, 2, none⟩ = some (.slice a2 m1 c2) := cell_at hz
  have d3 : w13.cell? ⟨A15, 3, none⟩ = some (.int .u32 u.lock) := cell_at hz
  have hb := hal
  replace u0 := below_cells hb _ _ u0
  replace u1 := below_cells hb _ _ u1
  replace u2 := below_cells hb _ _ u2
  replace u3 := below_cells hb _ _ u3
  replace o1 := below_cells hb _ _ o1
  have HB := Lib.hid (HB.out.trans (hb.mono HB.out.size))
  have HU := Lib.hid (HU.out.below hb)
  have HT := Lib.hid (HT.out.below hb)
  clear hz hal hb hA15
  go_wp2_with fail
  refine (HE2.out _ w13 HT.out).mono ?_
  rintro e w14 ⟨rfl, hb⟩
  replace u0 := below_cells hb _ _ u0
  replace u1 := below_cells hb _ _ u1
  replace u2 := below_cells hb _ _ u2
  replace u3 := below_cells hb _ _ u3
  replace d0 := below_cells hb _ _ d0
  replace d1 := below_cells hb _ _ d1
  replace d2 := below_cells hb _ _ d2
  replace d3 := below_cells hb _ _ d3
  replace o1 := below_cells hb _ _ o1
  have HB := Lib.hid (HB.out.trans (hb.mono HB.out.size))
  have HU := Lib.hid (HU.out.below hb)
  have HT := Lib.hid (HT.out.below hb)
  clear hb
  go_wp2_with fail
  refine (HE3.out _ w14 HU.out).mono ?_
  rintro e w15 ⟨rfl, hb⟩
  replace d0 := below_cells hb _ _ d0
  replace d1 := below_cells hb _ _ d1
  replace d2 := below_cells hb _ _ d2
  replace d3 := below_cells hb _ _ d3
  replace o1 := below_cells hb _ _ o1
  have HB := Lib.hid (HB.out.trans (hb.mono HB.out.size))
  have HT := Lib.hid (HT.out.below hb)
  clear hb
  go_wp2_with fail
  refine (HE3.out _ w15 HT.out).mono ?_
  rintro e w16 ⟨rfl, hb⟩
  replace o1 := below_cells hb _ _ o1
  have HB := Lib.hid (HB.out.trans (hb.mono HB.out.size))
  clear hb
  clear u0 u1 u2 u3 d0 d1 d2 d3
  go_wp2_with fail
  refine (wakes7_any w16).mono ?_
  rintro e w17 ⟨rfl, hb⟩
  replace o1 := below_cells hb _ _ o1
  have HB := Lib.hid (HB.out.trans (hb.mono HB.out.size))
  clear hb
  go_wp2_with fail
  go_ret
  exact ⟨rfl, HB.out⟩
end Go.Proofs.Ytmcknjldimnaoaa
end

section
/-
  IdentGrows returns true for every input, and each argument reads behind the call as before. Conditions: none beyond the statement's own.
-/
namespace Go.Proofs.Ytmcknjldimnaoaa.identGrowsDone
open Go.ChangeShapes Go.WideShapes Go.ChangeAt Go.RowKit
open Go.ChangeMaps (open_string shut_string)
set_option linter.unusedVariables false

theorem own : ownKnob Try.prog.godebug = none := by kernel_rfl
theorem laidOut : laidOutB Try.prog = true := by kernel_rfl

set_option maxRecDepth 100000 in
theorem lifted (os : Os) (started : os.Started) (H : Type) (enc : TypeId × Value → H) :
    ReturnsInHanded {} Try.checked os 11 .any (Rows.identGrowsSpec.pre6 enc Try.prog Try.f11 Rows.identGrowsRow.domain false) (Rows.identGrowsSpec.post enc Try.prog Try.f11 false true false false) := by
  refine returnsInHanded_of_change (C := Try.checked) own started (by kernel_rfl) Try.func11
    (ChangeSpec.witness6 (enc := enc) (C := Try.checked) false ⟨#[], #[.agg #[.int .u32 0, .slice none 0 0, .slice none 0 0, .int .u32 0], .agg #[.int .i64 0, .string ByteArray.empty]], []⟩ 8 (by kernel_rfl) (by kernel_rfl) (by kernel_rfl) (by kernel_rfl)) ?_
  intro W base args ds gs before hval0 hW hcnd _
  have hval : ∀ (j : Nat) t v, Try.f11.params[j]? = some t → args[j]? = some v → Value.okWide Try.prog W .any base t v := hval0
  have hW' := hW
  obtain ⟨p, q, hA0, hV, rfl, hfz, hnd⟩ := hW
  have hA : DataW.TrodAll enc Try.prog W 0 (fun _ => true) true Try.f11.params.toList args.toList ds p := hA0
  rw [Try.params11] at hA hval
  obtain ⟨v0, vs0, d0, ds0, p0, q0, hargs, rfl, rfl, h0, r0⟩ := trodAll_cons hA
  obtain ⟨v1, vs1, d1, ds1, p1, q1, rfl, rfl, rfl, h1, r1⟩ := trodAll_cons r0
  obtain ⟨rfl, rfl, rfl⟩ := trodAll_nil r1
  obtain rfl : args = #[v0, v1] := by cases args; simp_all
  obtain ⟨rfl, rfl⟩ := trodVars_none hV
  have k0 := h0
  have lt0 : ∀ x ∈ p0, x.block < W.heap.size := by obtain ⟨m, hm⟩ := k0; exact DataW.trod_lt m _ _ _ hm
  obtain ⟨a0, w0⟩ := open_tx (hval 0 26 v0 rfl rfl) h0
  have k1 := h1
  have lt1 : ∀ x ∈ p1, x.block < W.heap.size := by obtain ⟨m, hm⟩ := k1; exact DataW.trod_lt m _ _ _ hm
  obtain ⟨a1, w1⟩ := open_out (hval 1 59 v1 rfl rfl) h1
  clear hA0 hval0
  refine (identGrows_walk v0 a0 v1 a1 W w0 w1).mono fun e W' ⟨he, bel⟩ => ?_
  subst he
  exact ⟨_, rfl, _, _, _, [], _, [], hW', trodAll_mk1 (shut_bool Try.underlying4 _), (trodAll_cons_mk (Below.trod laidOut (by kernel_rfl) (of_decide_eq_true (by kernel_rfl)) k0 bel lt0) (trodAll_cons_mk (Below.trod laidOut (by kernel_rfl) (of_decide_eq_true (by kernel_rfl)) k1 bel lt1) trodAll_mk0)), rfl, bel.frame _, fun h => by cases h⟩

theorem proved : Rows.IdentGrowsSaid :=
  OpenClaim.holds_of_wide 11 Try.f11 rfl rfl rfl rfl rfl rfl rfl ⟨rfl, rfl, rfl, rfl, rfl⟩ rfl rfl rfl rfl rfl (by kernel_rfl) Try.func11 (by kernel_rfl)
    (of_decide_eq_true (by kernel_rfl)) (by unfold Func.isWrapper; first | (rw [if_pos (by decide +kernel)]; kernel_rfl) | (rw [if_neg (by decide +kernel)]; exact ⟨rfl, rfl⟩))
    (fun os started H enc _ => lifted os started H enc)

#print axioms proved
end Go.Proofs.Ytmcknjldimnaoaa.identGrowsDone
end
