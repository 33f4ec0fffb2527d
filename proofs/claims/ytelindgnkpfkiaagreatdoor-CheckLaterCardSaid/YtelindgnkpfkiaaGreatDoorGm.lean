/-
  The law's transaction: spending. Conditions: the job lies in memory.
-/
import Derived.Test.YtelindgnkpfkiaaGreatDoorQ9CheckFeesCard
import Derived.Test.YtelindgnkpfkiaaGreatDoorCut
namespace Go.Proofs.YtelindgnkpfkiaaGreatDoor
open Go.RowKit Go.BigFrame
set_option linter.unusedVariables false
set_option linter.unusedSimpArgs false

structure PJs where
  coin : Nat
  br : Nat
  tag : Nat
  seq : Nat
  raw : PIn
  odd : Bool
structure PJs.Ok (x : PJs) : Prop where
  coin : x.coin < 256
  br : x.br < 256
  tag : x.tag < 256
  seq : x.seq < 4294967296
  id : x.raw.id.size ≤ maxLen
  idx : x.raw.idx < 4294967296
  rseq : x.raw.seq < 4294967296
def rpJs : Rp PJs := ⟨9, fun w cs x => ∃ v, cs = [.int .u8 x.coin, .int .u8 x.br, .int .u8 x.tag, .int .u32 x.seq, .string x.raw.id, .int .u32 x.raw.idx, .int .u32 x.raw.seq, v, .bool x.odd] ∧ SlAt rpStr w v x.raw.wit ∧ x.Ok, fun hw ⟨v, h1, h2, h3⟩ => ⟨v, h1, h2.mono hw, h3⟩⟩
theorem SlAt.js {w : World} {a : Option Addr} {n c i : Nat} {xs : List PJs} (h : SlAt rpJs w (.slice a n c) xs) (hi : i < n) : ∃ (b o : Nat) (x : PJs) (v : Value), a = some ⟨b, o, none⟩ ∧ xs[i]? = some x ∧ x.Ok ∧ SlAt rpStr w v x.raw.wit ∧
    w.cell? ⟨b, o + i * 9, none⟩ = some (.int .u8 x.coin) ∧ w.cell? ⟨b, o + i * 9 + 1, none⟩ = some (.int .u8 x.br) ∧ w.cell? ⟨b, o + i * 9 + 2, none⟩ = some (.int .u8 x.tag) ∧ w.cell? ⟨b, o + i * 9 + 3, none⟩ = some (.int .u32 x.seq) ∧
    w.cell? ⟨b, o + i * 9 + 4, none⟩ = some (.string x.raw.id) ∧ w.cell? ⟨b, o + i * 9 + 5, none⟩ = some (.int .u32 x.raw.idx) ∧ w.cell? ⟨b, o + i * 9 + 6, none⟩ = some (.int .u32 x.raw.seq) ∧ w.cell? ⟨b, o + i * 9 + 7, none⟩ = some v ∧ w.cell? ⟨b, o + i * 9 + 8, none⟩ = some (.bool x.odd) := by
  obtain ⟨b, o, x, cs, h1, h2, h3, h4, v, h5, h6, h7⟩ := h.at hi
  subst h5
  exact ⟨b, o, x, v, h1, h2, h7, h6, h4 0 _ rfl, h4 1 _ rfl, h4 2 _ rfl, h4 3 _ rfl, h4 4 _ rfl, h4 5 _ rfl, h4 6 _ rfl, h4 7 _ rfl, h4 8 _ rfl⟩
def fld2 : Value → Value
  | .agg cs => cs.getD 2 undef
  | _ => undef
def OutV (outs : List POut) (v : Value) (lo hi : Nat) (w : World) : Prop := ∃ (vi : Value) (oa : Option Addr) (oc : Nat), v = .agg #[.int .u32 (0 : Nat), vi, .slice oa outs.length oc, .int .u32 (0 : Nat)] ∧ OutsOwn lo w (.slice oa outs.length oc) outs ∧ ∀ b, (Value.slice oa outs.length oc).ownBlock = some b → b < hi
theorem OutV.mono {outs : List POut} {v : Value} {lo hi : Nat} {w w' : World} (hk : ∀ b, lo ≤ b → b < hi → w'.heap[b]? = w.heap[b]?) (h : OutV outs v lo hi w) : OutV outs v lo hi w' := by
  obtain ⟨vi, oa, oc, h1, h2, h3⟩ := h
  exact ⟨vi, oa, oc, h1, h2.kept fun b hb => hk b (h2.row.lt b hb).1 (h3 b hb), h3⟩
theorem cutOutV {lo0 : List POut} {outs : List POut} {w w' : World} {v : Value} (ho : outs = (lo0.take 6).map cutOut) (h : TxOwn w.heap.size w' v (cutTx 6 ⟨0, [], lo0, 0⟩)) : OutV outs v w.heap.size w'.heap.size w' := by
  obtain ⟨⟨vi, vo, ps, rfl, hp, h1, h2, h3⟩, -, -⟩ := h
  have h2' : OutsOwn w.heap.size w' vo outs := by rw [ho]; exact h2
  obtain ⟨oa, oc, rfl, -, -⟩ := ownsRow_shape h2'.row
  exact ⟨vi, oa, oc, rfl, h2', fun b hb => (h2'.row.lt b hb).2⟩
def SFact.outv (outs : List POut) : SFact := ⟨fun v _ lo hi w => OutV outs v lo hi w, OutV.mono⟩
def RG1m (X : Nat) (ver lock : Nat) (vo : Value) (outs : List POut) : Prop → Nat → SFact
  | _, 0 => .val fun _ => .pointer (some ⟨X, 3, none⟩)
  | _, 1 => .val fun _ => .int .u32 ver
  | _, 2 => .val fun _ => .pointer (some ⟨X, 4, none⟩)
  | _, 3 => .val fun _ => .int .u32 lock
  | _, 4 => .val fun _ => .pointer (some ⟨X, 2, none⟩)
  | _, 5 => .val fun _ => vo
  | _, 6 => .val fun _ => .agg #[.int .u32 (0 : Nat), .slice none 0 0, vo, .int .u32 (0 : Nat)]
  | _, 7 => .outv outs
  | _, 8 => .val fun d => fld2 (d.getD 0 undef)
  | _, 9 => .val fun d => .agg #[.int .u32 ver, .slice none 0 0, d.getD 2 undef, .int .u32 lock]
  | p, 10 => .made p (.cells #[.int .u32 0, .slice none 0 0, .slice none 0 0, .int .u32 0] 35 (0, 0))
  | _, 11 => .stored 35
  | _, _ => .any
def WitV (s : ByteArray) (v : Value) (lo hi : Nat) (w : World) : Prop := ∃ b, lo ≤ b ∧ b < hi ∧ v = .slice (some ⟨b, 0, none⟩) 1 1 ∧ w.heap[b]? = some (.cells #[.string s] 9 (0, 0))
theorem WitV.mono {s : ByteArray} {v : Value} {lo hi : Nat} {w w' : World} (hk : ∀ b, lo ≤ b → b < hi → w'.heap[b]? = w.heap[b]?) (h : WitV s v lo hi w) : WitV s v lo hi w' := by
  obtain ⟨b, h1, h2, h3, h4⟩ := h
  exact ⟨b, h1, h2, h3, (hk b h1 h2).trans h4⟩
def SFact.witv (s : ByteArray) : SFact := ⟨fun v _ lo hi w => WitV s v lo hi w, WitV.mono⟩
def RG5 (C : Nat) (x : PJs) (ri rj : Nat) : Prop → Nat → SFact
  | _, 0 => .val fun _ => .pointer (some ⟨C, 3, none⟩)
  | _, 1 => .val fun _ => .int .u32 x.seq
  | _, 2 => .val fun _ => .pointer (some ⟨C, 1, none⟩)
  | _, 3 => .val fun _ => .int .u8 x.br
  | _, 4 => .val fun _ => .int .u8 ri
  | _, 5 => .val fun _ => .int .i64 ri
  | _, 6 => .val fun _ => .pointer (some ⟨C, 2, none⟩)
  | _, 7 => .val fun _ => .int .u8 x.tag
  | _, 8 => .val fun _ => .int .u8 rj
  | _, 9 => .val fun _ => .int .u16 rj
  | _, 10 => .witv (signW ri rj)
  | _, 11 => .val fun d => .agg #[.string ⟨#[]⟩, .int .u32 (0 : Nat), .int .u32 x.seq, d.getD 1 undef]
  | p, 12 => .made p (.cells #[.string ⟨#[]⟩, .int .u32 0, .int .u32 0, .slice none 0 0] 56 (0, 0))
  | _, 13 => .stored 56
  | _, _ => .any
def RG8 (D : Nat) (y : PJc) (ai bi : Nat) : Nat → Fact
  | 0 => .val fun _ => .pointer (some ⟨D, 0, none⟩)
  | 1 => .val fun _ => .int .u8 y.id
  | 2 => .val fun _ => .int .u8 ai
  | 3 => .val fun _ => .int .i64 ai
  | 4 => .val fun _ => .string (idB ai)
  | 5 => .val fun _ => .pointer (some ⟨D, 1, none⟩)
  | 6 => .val fun _ => .int .u8 y.idx
  | 7 => .val fun _ => .int .u8 bi
  | 8 => .val fun _ => .int .u32 bi
  | 9 => .val fun _ => .agg #[.string (idB ai), .int .u32 bi]
  | _ => .any
/-- The transaction that is being made. -/
structure SJ (w : World) (X T S : Nat) (ver lock : Nat) (job : Array Value) (vo : Value) (outs : List POut) (ia : Option Addr) (ic : Nat) (ps : List (PIn × Value)) (wr : World) : Prop where
  bel : Below w.heap.size w wr
  sz : S ≤ wr.heap.size
  job : wr.heap[X]? = some (.cells job 27 (0, 0))
  res : wr.heap[X + 1]? = some (.cells #[.int .u32 0, .slice none 0 0, .slice none 0 0, .int .u32 0] 35 (0, 0))
  box : wr.heap[T]? = some (.cells #[.int .u32 ver, .slice ia ps.length ic, vo, .int .u32 lock] 35 (0, 0))
  ins : InsOwn S wr (.slice ia ps.length ic) ps
  outs : OutsOwn w.heap.size wr vo outs
theorem SJ.next {w wr w' : World} {X T S : Nat} {ver lock : Nat} {job : Array Value} {vo : Value} {outs : List POut} {ia : Option Addr} {ic : Nat} {ps : List (PIn × Value)} (h : SJ w X T S ver lock job vo outs ia ic ps wr) (hb : Below wr.heap.size wr w') : SJ w X T S ver lock job vo outs ia ic ps w' :=
  ⟨h.bel.trans (hb.mono h.bel.size), Nat.le_trans h.sz hb.size, stay h.job hb, stay h.res hb, stay h.box hb, h.ins.below hb, h.outs.below hb⟩
theorem own_strJ {w : World} {base p : Nat} {s : ByteArray} (hp : base ≤ p) (h : w.heap[p]? = some (.cells #[.string s] 9 (0, 0))) : w.ownsRow base 9 1 (.slice (some ⟨p, 0, none⟩) 1 1) 1 (strCells [s]) :=
  ⟨rfl, .inr ⟨p, 1, _, rfl, hp, h, Nat.le_refl _, by decide, rfl, rfl⟩⟩
theorem SJ.app {w wr : World} {X T S N : Nat} {ver lock : Nat} {job : Array Value} {vo : Value} {outs : List POut} {ia : Option Addr} {ic : Nat} {ps : List (PIn × Value)} (h : SJ w X T S ver lock job vo outs ia ic ps wr) (hwS : w.heap.size ≤ S) (hXT : X + 1 < T) (hTS : T < S) (hwX : w.heap.size ≤ X)
    (hoT : ∀ b, vo.ownBlock = some b → b ≠ T) (hoS : ∀ b, vo.ownBlock = some b → b < S) (hn : ps.length ≤ 1000) {x : PIn} {wv : Value} (hok : OkIn x) (hw : wr.ownsRow S 9 1 wv x.wit.length (strCells x.wit)) (hN : ∀ b, InsHas (.slice ia ps.length ic) ps b → b < N) (hnew : ∀ b, wv.ownBlock = some b → N ≤ b ∧ b < wr.heap.size) (h1 : wv.oneCell' = true) :
    ∃ a' c' wd, (Builtin.append_ #[33, 33] 33 #[.slice ia ps.length ic, .slice (some ⟨wr.heap.size, 0, none⟩) 1 1]).run Tryz.prog (wr.alloc (.cells #[.string x.id, .int .u32 x.idx, .int .u32 x.seq, wv] 56)) = .ok (.slice a' (ps.length + 1) c') wd ∧
      wd.heap[T]? = some (.cells #[.int .u32 ver, .slice ia ps.length ic, vo, .int .u32 lock] 35 (0, 0)) ∧ SJ w X T S ver lock job vo outs a' c' (ps ++ [(x, wv)]) (wd.setCell ⟨T, 1, none⟩ (.slice a' (ps.length + 1) c')) := by
  obtain ⟨i0, hi0, hz0, hz1, hz2⟩ := info_parts info_in
  obtain ⟨a3, c3, w3, hrun, hown3, hb3, hg3, hv3⟩ := append_one (P := Tryz.prog) Tryz.underlying33 hi0 hz0 hz1 hz2 rfl h.ins.row #[.string x.id, .int .u32 x.idx, .int .u32 x.seq, wv] rfl (by have h1' := h1; simp [Value.oneCell'] at h1' ⊢; exact h1') (by rw [maxLen_eq]; omega) (by omega) h.sz (ty := 33)
  have hkeep : ∀ k, k < wr.heap.size → (Value.slice ia ps.length ic).ownBlock ≠ some k → w3.heap[k]? = wr.heap[k]? := fun k hk hne =>
    (hg3.block k (by simp; omega) (fun e => hne e.symm)).trans (Below.heap_alloc _ _ _ hk)
  have hnp : ∀ b, wv.ownBlock = some b → ¬ InsHas (.slice ia ps.length ic) ps b := fun b e hh => by
    have := hN b hh
    have := (hnew b e).1
    omega
  have hins := h.ins.snoc hown3 (x := x) (wv := wv) (by
    rcases hv3 with e | e
    · exact .inl e
    · refine .inr ⟨_, e, by omega, fun e' => ?_⟩
      have := (hnew _ e').2
      omega) hkeep
    (ownsRow_of_block hw fun k e => hkeep k (hnew k e).2 (fun e2 => hnp k e (.inl e2))) hok hnp
  have hTl : T < wr.heap.size := (Array.getElem?_eq_some_iff.1 h.box).1
  have hrow : ∀ k, k < S → (Value.slice ia ps.length ic).ownBlock ≠ some k := fun k hk e => by have := (h.ins.row.lt k e).1; omega
  have hbox := (hkeep T hTl (hrow T hTS)).trans h.box
  have hX1 : X < S ∧ X + 1 < S := by omega
  have hbw : Below w.heap.size w w3 := h.bel.trans (hb3.mono hwS)
  have hl : (ps ++ [(x, wv)]).length = ps.length + 1 := by simp
  have hbw' : S ≤ w3.heap.size ∧ w3.heap.size ≤ (w3.setCell ⟨T, 1, none⟩ (.slice a3 (ps.length + 1) c3)).heap.size := ⟨Nat.le_trans h.sz hb3.size, (Below.setCell (Below.refl 0 _) (p := ⟨T, 1, none⟩) (Nat.zero_le _) _).size⟩
  refine ⟨a3, c3, w3, hrun, hbox, hbw.setCell (p := ⟨T, 1, none⟩) (by show _ ≤ T; omega) _, ?_, ?_, ?_, ?_, ?_, ?_⟩
  · exact Nat.le_trans hbw'.1 hbw'.2
  · rw [Below.heap_setCell _ _ _ _ (by show X ≠ T; omega)]
    exact (hkeep X (Nat.lt_of_lt_of_le hX1.1 h.sz) (hrow X hX1.1)).trans h.job
  · rw [Below.heap_setCell _ _ _ _ (by show X + 1 ≠ T; omega)]
    exact (hkeep (X + 1) (Nat.lt_of_lt_of_le hX1.2 h.sz) (hrow (X + 1) hX1.2)).trans h.res
  · rw [heap_setCell_at hbox, hl]
    rfl
  · rw [hl]
    exact hins.store ⟨T, 1, none⟩ _ fun e => by
      have := (hins.lt e).1
      dsimp only at this
      omega
  · refine (h.outs.kept fun b hb => ?_)
    rw [Below.heap_setCell _ _ _ _ (hoT b hb)]
    exact hkeep b (Nat.lt_of_lt_of_le (hoS b hb) h.sz) (hrow b (hoS b hb))
/-- A transaction of one In, in blocks of the call's own. -/
def Fact.oneIn (y : PIn) : Fact := ⟨fun v _ lo hi w => ∃ (b c : Nat) (vo : Value) (wa : Option Addr) (wc : Nat), v = .agg #[.int .u32 (0 : Nat), .slice (some ⟨b, 0, none⟩) 1 c, vo, .int .u32 (0 : Nat)] ∧ b < hi ∧
    w.cell? ⟨b, 0, none⟩ = some (.string y.id) ∧ w.cell? ⟨b, 1, none⟩ = some (.int .u32 y.idx) ∧ w.cell? ⟨b, 2, none⟩ = some (.int .u32 y.seq) ∧ w.cell? ⟨b, 3, none⟩ = some (.slice wa y.wit.length wc) ∧
    w.ownsRow lo 9 1 (.slice wa y.wit.length wc) y.wit.length (strCells y.wit) ∧ (∀ k, (Value.slice wa y.wit.length wc).ownBlock = some k → k < hi) ∧ OkIn y, by
  rintro v d lo hi w w' hk ⟨b, c, vo, wa, wc, h1, h2, h3, h4, h5, h6, h7, h8, h9⟩
  have hc : ∀ j, w'.cell? ⟨b, j, none⟩ = w.cell? ⟨b, j, none⟩ := fun j => by
    have := hk b h2
    simp only [World.cell?, this]
  exact ⟨b, c, vo, wa, wc, h1, h2, (hc 0).trans h3, (hc 1).trans h4, (hc 2).trans h5, (hc 3).trans h6, ownsRow_of_block h7 fun k e => hk k (h8 k e), h8, h9⟩⟩
theorem one_at {w : World} {p : Nat} {x : PIn} {v : Value} (h : w.heap[p]? = some (.cells #[.string x.id, .int .u32 x.idx, .int .u32 x.seq, v] 56 (0, 0))) (hv : SlAt rpStr w v x.wit) (h1 : x.id.size ≤ maxLen) (h2 : x.idx < 4294967296) (h3 : x.seq < 4294967296) :
    SlAt rpIn w (.slice (some ⟨p, 0, none⟩) 1 1) [x] := by
  refine ⟨_, 1, rfl, Nat.le_refl _, by decide, fun i y hi => ?_⟩
  have hi0 : i = 0 := by have := (List.getElem?_eq_some_iff.1 hi).1; simp at this; exact this
  subst hi0
  obtain rfl : x = y := by simpa using hi
  refine ⟨p, 0, [.string x.id, .int .u32 x.idx, .int .u32 x.seq, v], rfl, rfl, fun j u hj => ?_, v, rfl, hv, h1, h2, h3⟩
  rw [show 0 + 0 * rpIn.size + j = j by simp, cell_at h]
  match j, hj with
  | 0, hj => exact hj
  | 1, hj => exact hj
  | 2, hj => exact hj
  | 3, hj => exact hj
theorem cutOneIs {w w' : World} {x : PIn} {v : Value} (h : TxOwn w.heap.size w' v (cutTx 6 ⟨0, [x], [], 0⟩)) : (Fact.oneIn (cutIn x)).p v [] w.heap.size w'.heap.size w' := by
  obtain ⟨⟨vi, vo, ps, rfl, hp, h1, h2, h3⟩, -, -⟩ := h
  obtain ⟨p, rfl, hp1⟩ : ∃ p, ps = [p] ∧ p.1 = cutIn x := by
    match ps, hp with
    | [p], hp => exact ⟨p, rfl, by simpa [cutTx] using hp.symm⟩
    | [], hp => simp [cutTx] at hp
    | _ :: _ :: _, hp => simp [cutTx] at hp
  obtain ⟨a, c, rfl, -, -⟩ := ownsRow_shape h1.row
  obtain ⟨b, rfl, -, hb, c0, c1, c2, c3⟩ := h1.at (i := 0) (p := p) rfl
  have hw := h1.wit 0 p rfl
  have hok := h1.ok 0 p rfl
  obtain ⟨y, wv⟩ := p
  subst hp1
  dsimp only at *
  obtain ⟨wa, wc, rfl, -, -⟩ := ownsRow_shape hw
  exact ⟨b, c, vo, wa, wc, rfl, hb, c0, c1, c2, c3, hw, fun k e => (hw.lt k e).2, hok⟩
theorem wpList_run_of (op : Op) {P : Program} {ops : Array Oper} {rest : List Oper} {o : Oper} {a : Act} {w w' : World} {v : Value} {Q : Exit → Act → World → Prop} (ho : o.op = op) (hg : o.guard = none)
    (hrun : (execOp a.eval o).run P w = .ok (.value v) w') (hK : wpList P ops Q rest (a.put o.dst v) w') : wpList P ops Q (o :: rest) a w := wpList_run hg hrun hK
def SpJIs (w : World) (e : Ending) (w' : World) : Prop := ∃ v t, e = .returned v ∧ TxOwn w.heap.size w' v t ∧ t.outs.length ≤ 1000 ∧ t.ins.length ≤ 6 ∧ Below w.heap.size w w'
set_option maxRecDepth 100000 in
set_option maxHeartbeats 8000000 in
theorem spendJ_any (vc vs vo : Value) (lj : List PJc) (ls : List PJs) (lo0 : List POut) (ver lock : Nat) (ht : Int) (w : World) (hc : SlAt rpJc w vc lj) (hs : SlAt rpJs w vs ls) (ho : SlAt rpOut w vo lo0) (hver : ver < 4294967296) (hlock : lock < 4294967296) :
    Calls Tryz.prog 8 #[.agg #[vc, vs, vo, .int .u32 ver, .int .u32 lock, .int .i64 ht]] w (SpJIs w) := by
  have HC := Lib.hid hc
  have HS := Lib.hid hs
  have HO := Lib.hid ho
  obtain ⟨aj, cj, rfl, hj1, hj2⟩ := hc.shape
  obtain ⟨az, cs, rfl, hs1, hs2⟩ := hs.shape
  obtain ⟨ao, co, rfl, ho1, ho2⟩ := ho.shape
  rw [maxLen_eq] at hs2 hj2
  obtain ⟨nj, hnj⟩ : ∃ n, n = lj.length := ⟨_, rfl⟩
  obtain ⟨ns, hns⟩ : ∃ n, n = ls.length := ⟨_, rfl⟩
  obtain ⟨no, hno⟩ : ∃ n, n = lo0.length := ⟨_, rfl⟩
  rw [← hnj] at HC hj1 ⊢
  rw [← hns] at HS hs1 ⊢
  rw [← hno] at HO ⊢
  obtain ⟨q, hq⟩ : ∃ q, q = min ns 6 := ⟨_, rfl⟩
  have hqi : min (ns : Int) 6 = (q : Int) := by omega
  have hqn : q ≤ ns ∧ q ≤ 6 := by omega
  have HQ := Lib.hid hqi
  have HVL := Lib.hid (And.intro hver hlock)
  clear hc hs ho hq hnj hns hno ho1 ho2 hqi
  go_enter Tryz.func8, Tryz.ntmps8
  go_upto_region 1 with fail
  obtain ⟨X, hX⟩ : ∃ q, q = w.heap.size := ⟨_, rfl⟩
  have hnews := new2 w X hX (.cells #[.slice aj nj cj, .slice az ns cs, .slice ao no co, .int .u32 ver, .int .u32 lock, .int .i64 ht] 27) (.cells #[.int .u32 0, .slice none 0 0, .slice none 0 0, .int .u32 0] 35)
  rw [← hX]
  generalize ((w.alloc (.cells #[.slice aj nj cj, .slice az ns cs, .slice ao no co, .int .u32 ver, .int .u32 lock, .int .i64 ht] 27)).alloc (.cells #[.int .u32 0, .slice none 0 0, .slice none 0 0, .int .u32 0] 35)) = w0 at *
  obtain ⟨hz0, hz1, hal⟩ := hnews
  have HB0 := Lib.hid hal
  have HZ0 := Lib.hid hz0
  have HZ1 := Lib.hid hz1
  have hXw : w.heap.size ≤ X := by omega
  have jx2 : w0.cell? ⟨X, 2, none⟩ = some (.slice ao no co) := cell_at hz0
  have jx3 : w0.cell? ⟨X, 3, none⟩ = some (.int .u32 ver) := cell_at hz0
  have jx4 : w0.cell? ⟨X, 4, none⟩ = some (.int .u32 lock) := cell_at hz0
  have HO0 := Lib.hid (HO.out.below hal)
  obtain ⟨outs, houts⟩ : ∃ q, q = (lo0.take 6).map cutOut := ⟨_, rfl⟩
  have HOL := Lib.hid (show outs.length ≤ 1000 by rw [houts, List.length_map, List.length_take]; omega)
  have HCU := Lib.hid (fun y (h : SlAt rpOut y (.slice ao no co) lo0) => cut_any (.agg #[.int .u32 (0 : Nat), .slice none 0 0, .slice ao no co, .int .u32 (0 : Nat)]) ⟨0, [], lo0, 0⟩ 6 y ⟨_, _, rfl, sl_nil, h, by show 0 < _; decide, by show 0 < _; decide⟩ (by decide))
  have HOUT := Lib.hid houts
  clear hz0 hz1 hal hX houts
  go_upto_region 1 with fail
  refine wp_region_stored (RG1m X ver lock (.slice ao no co) outs) 12 11 10 (by kernel_rfl) (by kernel_rfl) (by kernel_rfl) (by kernel_rfl) (by decide) (by kernel_rfl) (by decide) (by intro j hj v d lo hi w h; match j, hj, h with | 0, hj, h => exact h | 1, hj, h => exact h | 2, hj, h => exact h | 3, hj, h => exact h | 4, hj, h => exact h | 5, hj, h => exact h | 6, hj, h => exact h | 7, hj, h => exact h | 8, hj, h => exact h | 9, hj, h => exact h | 10, hj, h => exact absurd rfl hj | 11, hj, h => exact h | q + 12, hj, h => exact h) ?_ ?_
  · intro i o hi ho L xs lo hi' wr hmd hni hpre
    obtain ⟨x0, x1, x2, x3, x4, x5, x6, x7, x8, x9, x10, x11, rfl⟩ : ∃ x0 x1 x2 x3 x4 x5 x6 x7 x8 x9 x10 x11, xs = [x0, x1, x2, x3, x4, x5, x6, x7, x8, x9, x10, x11] := by match xs, hmd.len with | [x0, x1, x2, x3, x4, x5, x6, x7, x8, x9, x10, x11], _ => exact ⟨_, _, _, _, _, _, _, _, _, _, _, _, rfl⟩
    match i, ho with
    | 0, ho =>
      obtain rfl := Option.some.inj ho
      have kk := fun lx ox ax => sstep_pure (P := Tryz.prog) (R := RG1m X ver lock (.slice ao no co) outs) (s := 11) (l := lx) (w0 := w0) (L := L) (xs := [x0, x1, x2, x3, x4, x5, x6, x7, x8, x9, x10, x11]) (lo := lo) (hi := hi') (o := ox) (a := ax) (w := wr) (i := 0) (k := 10) (by decide) (.pointer (some ⟨X, 3, none⟩))
      refine kk _ _ _ ?_ ?_
      · kernel_rfl
      · exact rfl
    | 1, ho =>
      obtain rfl := Option.some.inj ho
      have h_0 : x0 = .pointer (some ⟨X, 3, none⟩) := hmd.rel 0 (hpre 0 (by kernel_rfl))
      subst h_0
      have t0 := below_cells hmd.bel _ _ jx3
      have kk := fun lx ox ax => sstep_pure (P := Tryz.prog) (R := RG1m X ver lock (.slice ao no co) outs) (s := 11) (l := lx) (w0 := w0) (L := L) (xs := [(.pointer (some ⟨X, 3, none⟩)), x1, x2, x3, x4, x5, x6, x7, x8, x9, x10, x11]) (lo := lo) (hi := hi') (o := ox) (a := ax) (w := wr) (i := 1) (k := 10) (by decide) (.int .u32 ver)
      refine kk _ _ _ ?_ ?_
      · simp [putAll, execOp, go_sem, t0]
      · exact rfl
    | 2, ho =>
      obtain rfl := Option.some.inj ho
      have kk := fun lx ox ax => sstep_pure (P := Tryz.prog) (R := RG1m X ver lock (.slice ao no co) outs) (s := 11) (l := lx) (w0 := w0) (L := L) (xs := [x0, x1, x2, x3, x4, x5, x6, x7, x8, x9, x10, x11]) (lo := lo) (hi := hi') (o := ox) (a := ax) (w := wr) (i := 2) (k := 10) (by decide) (.pointer (some ⟨X, 4, none⟩))
      refine kk _ _ _ ?_ ?_
      · kernel_rfl
      · exact rfl
    | 3, ho =>
      obtain rfl := Option.some.inj ho
      have h_2 : x2 = .pointer (some ⟨X, 4, none⟩) := hmd.rel 2 (hpre 2 (by kernel_rfl))
      subst h_2
      have t0 := below_cells hmd.bel _ _ jx4
      have kk := fun lx ox ax => sstep_pure (P := Tryz.prog) (R := RG1m X ver lock (.slice ao no co) outs) (s := 11) (l := lx) (w0 := w0) (L := L) (xs := [x0, x1, (.pointer (some ⟨X, 4, none⟩)), x3, x4, x5, x6, x7, x8, x9, x10, x11]) (lo := lo) (hi := hi') (o := ox) (a := ax) (w := wr) (i := 3) (k := 10) (by decide) (.int .u32 lock)
      refine kk _ _ _ ?_ ?_
      · simp [putAll, execOp, go_sem, t0]
      · exact rfl
    | 4, ho =>
      obtain rfl := Option.some.inj ho
      have kk := fun lx ox ax => sstep_pure (P := Tryz.prog) (R := RG1m X ver lock (.slice ao no co) outs) (s := 11) (l := lx) (w0 := w0) (L := L) (xs := [x0, x1, x2, x3, x4, x5, x6, x7, x8, x9, x10, x11]) (lo := lo) (hi := hi') (o := ox) (a := ax) (w := wr) (i := 4) (k := 10) (by decide) (.pointer (some ⟨X, 2, none⟩))
      refine kk _ _ _ ?_ ?_
      · kernel_rfl
      · exact rfl
    | 5, ho =>
      obtain rfl := Option.some.inj ho
      have h_4 : x4 = .pointer (some ⟨X, 2, none⟩) := hmd.rel 4 (hpre 4 (by kernel_rfl))
      subst h_4
      have t0 := below_cells hmd.bel _ _ jx2
      have kk := fun lx ox ax => sstep_pure (P := Tryz.prog) (R := RG1m X ver lock (.slice ao no co) outs) (s := 11) (l := lx) (w0 := w0) (L := L) (xs := [x0, x1, x2, x3, (.pointer (some ⟨X, 2, none⟩)), x5, x6, x7, x8, x9, x10, x11]) (lo := lo) (hi := hi') (o := ox) (a := ax) (w := wr) (i := 5) (k := 10) (by decide) (.slice ao no co)
      refine kk _ _ _ ?_ ?_
      · simp [putAll, execOp, go_sem, t0]
      · exact rfl
    | 6, ho =>
      obtain rfl := Option.some.inj ho
      have h_5 : x5 = .slice ao no co := hmd.rel 5 (hpre 5 (by kernel_rfl))
      subst h_5
      have kk := fun lx ox ax => sstep_pure (P := Tryz.prog) (R := RG1m X ver lock (.slice ao no co) outs) (s := 11) (l := lx) (w0 := w0) (L := L) (xs := [x0, x1, x2, x3, x4, (.slice ao no co), x6, x7, x8, x9, x10, x11]) (lo := lo) (hi := hi') (o := ox) (a := ax) (w := wr) (i := 6) (k := 10) (by decide) (.agg #[.int .u32 (0 : Nat), .slice none 0 0, .slice ao no co, .int .u32 (0 : Nat)])
      refine kk _ _ _ ?_ ?_
      · kernel_rfl
      · exact rfl
    | 7, ho =>
      obtain rfl := Option.some.inj ho
      have h_6 : x6 = .agg #[.int .u32 (0 : Nat), .slice none 0 0, .slice ao no co, .int .u32 (0 : Nat)] := hmd.rel 6 (hpre 6 (by kernel_rfl))
      subst h_6
      have kk := fun lx ox ax => sstep_call (P := Tryz.prog) (R := RG1m X ver lock (.slice ao no co) outs) (s := 11) (l := lx) (w0 := w0) (L := L) (xs := [x0, x1, x2, x3, x4, x5, (.agg #[.int .u32 (0 : Nat), .slice none 0 0, .slice ao no co, .int .u32 (0 : Nat)]), x7, x8, x9, x10, x11]) (lo := lo) (hi := hi') (o := ox) (a := ax) (w := wr) (i := 7) (k := 10) (by decide) (HCU.out wr (HO0.out.below hmd.bel))
      refine kk _ _ _ ?_ ?_
      · kernel_rfl
      · exact fun e w' h => by obtain ⟨v, rfl, hto, hb⟩ := h; exact ⟨_, rfl, hb, cutOutV HOUT.out hto⟩
    | 8, ho =>
      obtain rfl := Option.some.inj ho
      have l7 : L 7 := hpre 7 (by kernel_rfl)
      have r7 : OutV outs x7 (lo 7) (hi' 7) wr := hmd.rel 7 l7
      cases r7 with
      | intro vi r7 =>
      cases r7 with
      | intro oa r7 =>
      cases r7 with
      | intro oc r7 =>
      cases r7 with
      | intro r7 _ =>
      cases r7
      have kk := fun lx ox ax => sstep_pure (P := Tryz.prog) (R := RG1m X ver lock (.slice ao no co) outs) (s := 11) (l := lx) (w0 := w0) (L := L) (xs := [x0, x1, x2, x3, x4, x5, x6, (.agg #[.int .u32 (0 : Nat), vi, .slice oa outs.length oc, .int .u32 (0 : Nat)]), x8, x9, x10, x11]) (lo := lo) (hi := hi') (o := ox) (a := ax) (w := wr) (i := 8) (k := 10) (by decide) (.slice oa outs.length oc)
      refine kk _ _ _ ?_ ?_
      · kernel_rfl
      · exact rfl
    | 9, ho =>
      obtain rfl := Option.some.inj ho
      have h_1 : x1 = .int .u32 ver := hmd.rel 1 (hpre 1 (by kernel_rfl))
      subst h_1
      have h_3 : x3 = .int .u32 lock := hmd.rel 3 (hpre 3 (by kernel_rfl))
      subst h_3
      have l8 : L 8 := hpre 8 (by kernel_rfl)
      have l7 : L 7 := hmd.closed 8 l8 7 (by kernel_rfl)
      have h8 : x8 = fld2 x7 := hmd.val l8 (fun d => fld2 (d.getD 0 undef)) rfl rfl (by kernel_rfl)
      have r7 : OutV outs x7 (lo 7) (hi' 7) wr := hmd.rel 7 l7
      cases r7 with
      | intro vi r7 =>
      cases r7 with
      | intro oa r7 =>
      cases r7 with
      | intro oc r7 =>
      cases r7 with
      | intro r7 _ =>
      cases r7
      cases h8
      have kk := fun lx ox ax => sstep_pure (P := Tryz.prog) (R := RG1m X ver lock (.slice ao no co) outs) (s := 11) (l := lx) (w0 := w0) (L := L) (xs := [x0, (.int .u32 ver), x2, (.int .u32 lock), x4, x5, x6, (.agg #[.int .u32 (0 : Nat), vi, .slice oa outs.length oc, .int .u32 (0 : Nat)]), (.slice oa outs.length oc), x9, x10, x11]) (lo := lo) (hi := hi') (o := ox) (a := ax) (w := wr) (i := 9) (k := 10) (by decide) (.agg #[.int .u32 ver, .slice none 0 0, .slice oa outs.length oc, .int .u32 lock])
      refine kk _ _ _ ?_ ?_
      · kernel_rfl
      · exact rfl
    | 10, ho =>
      obtain rfl := Option.some.inj ho
      have kk := fun lx ox ax => sstep_new (P := Tryz.prog) (R := RG1m X ver lock (.slice ao no co) outs) (s := 11) (l := lx) (w0 := w0) (L := L) (xs := [x0, x1, x2, x3, x4, x5, x6, x7, x8, x9, x10, x11]) (lo := lo) (hi := hi') (o := ox) (a := ax) (w := wr) (i := 10) (k := 10) (by decide) (.pointer (some ⟨wr.heap.size, 0, none⟩)) (.cells #[.int .u32 0, .slice none 0 0, .slice none 0 0, .int .u32 0] 35)
      refine kk _ _ _ ?_ ?_
      · kernel_rfl
      · exact ⟨_, Nat.le_refl _, rfl, fun _ => ⟨by simp, heap_alloc_new wr _⟩⟩
    | 11, ho =>
      obtain rfl := Option.some.inj ho
      have l9 : L 9 := hpre 9 (by kernel_rfl)
      have l8 : L 8 := hmd.closed 9 l9 8 (by kernel_rfl)
      have l7 : L 7 := hmd.closed 8 l8 7 (by kernel_rfl)
      have h9 : x9 = .agg #[.int .u32 ver, .slice none 0 0, x8, .int .u32 lock] := hmd.val l9 (fun d => .agg #[.int .u32 ver, .slice none 0 0, d.getD 2 undef, .int .u32 lock]) rfl rfl (by kernel_rfl)
      have h8 : x8 = fld2 x7 := hmd.val l8 (fun d => fld2 (d.getD 0 undef)) rfl rfl (by kernel_rfl)
      have r7 : OutV outs x7 (lo 7) (hi' 7) wr := hmd.rel 7 l7
      have r10 : ∃ bq, lo 10 ≤ bq ∧ x10 = .pointer (some ⟨bq, 0, none⟩) ∧ (¬ L 11 → bq < hi' 10 ∧ wr.heap[bq]? = some (.cells #[.int .u32 0, .slice none 0 0, .slice none 0 0, .int .u32 0] 35 (0, 0))) := hmd.rel 10 (hpre 10 (by kernel_rfl))
      cases r7 with
      | intro vi r7 =>
      cases r7 with
      | intro oa r7 =>
      cases r7 with
      | intro oc r7 =>
      cases r7 with
      | intro r7 _ =>
      cases r7
      cases h8
      cases h9
      cases r10 with
      | intro bk h16 =>
      cases h16 with
      | intro _ h16 =>
      cases h16 with
      | intro h16 _ =>
      cases h16
      have kk := fun lx ox ax => sstep_row (P := Tryz.prog) (R := RG1m X ver lock (.slice ao no co) outs) (s := 11) (l := lx) (n := 12) (w0 := w0) (L := L) (xs := [x0, x1, x2, x3, x4, x5, x6, .agg #[.int .u32 (0 : Nat), vi, .slice oa outs.length oc, .int .u32 (0 : Nat)], .slice oa outs.length oc, .agg #[.int .u32 ver, .slice none 0 0, .slice oa outs.length oc, .int .u32 lock], .pointer (some ⟨bk, 0, none⟩), x11]) (lo := lo) (hi := hi') (o := ox) (a := ax) (w := wr) (k := 10) (35) (.tmp 3) (.tmp 17) (35) #[.int .u32 0, .slice none 0 0, .slice none 0 0, .int .u32 0] #[.int .u32 ver, .slice none 0 0, .slice oa outs.length oc, .int .u32 lock] bk
      refine kk _ _ _ ?_ ?_ ?_ ?_ ?_ ?_ ?_ ?_ ?_ ?_ ?_ ?_ ?_ ?_ ?_
      · exact rfl
      · exact rfl
      · exact rfl
      · exact hmd
      · exact hni
      · exact hpre 10 (by kernel_rfl)
      · rfl
      · rfl
      · kernel_rfl
      · kernel_rfl
      · kernel_rfl
      · rfl
      · kernel_rfl
      · kernel_rfl
      · kernel_rfl
    | q + 12, ho => omega
  · intro xs lo hi wr hmd
    obtain ⟨x0, x1, x2, x3, x4, x5, x6, x7, x8, x9, x10, x11, rfl⟩ : ∃ x0 x1 x2 x3 x4 x5 x6 x7 x8 x9 x10 x11, xs = [x0, x1, x2, x3, x4, x5, x6, x7, x8, x9, x10, x11] := by match xs, hmd.len with | [x0, x1, x2, x3, x4, x5, x6, x7, x8, x9, x10, x11], _ => exact ⟨_, _, _, _, _, _, _, _, _, _, _, _, rfl⟩
    simp only [putAll]
    change wpList _ _ _ [] _ _
    have h9 : x9 = .agg #[.int .u32 ver, .slice none 0 0, x8, .int .u32 lock] := hmd.val (show 9 < 12 by decide) (fun d => .agg #[.int .u32 ver, .slice none 0 0, d.getD 2 undef, .int .u32 lock]) rfl rfl (by kernel_rfl)
    have h8 : x8 = fld2 x7 := hmd.val (show 8 < 12 by decide) (fun d => fld2 (d.getD 0 undef)) rfl rfl (by kernel_rfl)
    have r7 : OutV outs x7 (lo 7) (hi 7) wr := hmd.rel 7 (by decide)
    have r11 := hmd.st (show 11 < 12 by decide) (x := x10) (y := x9) (t := 35) rfl (by kernel_rfl) (by kernel_rfl)
    have hb2 := hmd.bel
    have hlo7 := hmd.lohi 7 (by decide)
    have hlo11 := hmd.lohi 11 (by decide)
    have hap := hmd.apart 7 11 (by decide) (by decide) (by decide)
    clear hmd
    obtain ⟨vi, oa, oc, h7, hoo, hob⟩ := r7
    subst h7
    have h8' : x8 = .slice oa outs.length oc := h8
    subst h8'
    subst h9
    obtain ⟨T, csT, hT1, hT2, h10, h9', hTz⟩ := r11
    subst h10
    obtain rfl : csT = #[.int .u32 ver, .slice none 0 0, .slice oa outs.length oc, .int .u32 lock] := by injection h9' with e; exact e.symm
    have HNT := Lib.hid (show ∀ b, (Value.slice oa outs.length oc).ownBlock = some b → b ≠ T from fun b hb => by
      have e1 := (hoo.row.lt b hb).1
      have e2 := hob b hb
      omega)
    have HNX := Lib.hid (show ∀ b, (Value.slice oa outs.length oc).ownBlock = some b → b ≠ X + 1 from fun b hb => by
      have e1 := (hoo.row.lt b hb).1
      have := (Array.getElem?_eq_some_iff.1 HZ1.out).1
      omega)
    have hTS : T < wr.heap.size := by omega
    have hwT : X + 1 < T := by have := (Array.getElem?_eq_some_iff.1 HZ1.out).1; omega
    have hw0 : w.heap.size ≤ w0.heap.size := HB0.out.size
    have HSJ := Lib.hid (show SJ w X T wr.heap.size ver lock #[.slice aj nj cj, .slice az ns cs, .slice ao no co, .int .u32 ver, .int .u32 lock, .int .i64 ht] (.slice oa outs.length oc) outs none 0 [] wr from
      ⟨HB0.out.trans (hb2.mono HB0.out.size), Nat.le_refl _, stay HZ0.out hb2, stay HZ1.out hb2, hTz, insOwn_nil _ _, hoo.base (by omega)⟩)
    obtain ⟨S, hS⟩ : ∃ S, S = wr.heap.size := ⟨_, rfl⟩
    rw [← hS] at HSJ hTS
    have HOT := Lib.hid (show ∀ b, (Value.slice oa outs.length oc).ownBlock = some b → b < S from fun b hb => by rw [hS]; exact (hoo.row.lt b hb).2)
    have x1 : wr.cell? ⟨X, 1, none⟩ = some (.slice az ns cs) := cell_at HSJ.out.job
    have hqi := HQ.out
    clear h9' hTz hoo hob hb2 hlo7 hlo11 hap hT1 hT2 h8 hS HO0 HCU HZ0 HZ1 jx2 jx3 jx4
    go_wp2_with fail
    go_loopg [26] q (fun g i wr => ∃ (k : Nat) (ia : Option Addr) (ic : Nat) (ps : List (PIn × Value)), g = q - k ∧ k ≤ q ∧ i = .int .i64 k ∧ ps.length = k ∧ SJ w X T S ver lock #[.slice aj nj cj, .slice az ns cs, .slice ao no co, .int .u32 ver, .int .u32 lock, .int .i64 ht] (.slice oa outs.length oc) outs ia ic ps wr)
    case atStart => exact ⟨0, none, 0, [], rfl, by omega, rfl, rfl, HSJ.out⟩
    case round =>
      rename World => wo
      obtain ⟨k, ia, ic, ps, hgk, hk, rfl, hpl, hsj⟩ := hrel
      have HGK := Lib.hid hgk
      have HPL := Lib.hid hpl
      have HSJ := Lib.hid hsj
      clear hgk hpl hsj
      by_cases hlt : k < q
      · obtain ⟨bs, os, x, wv, rfl, -, hok, hwt, d0, d1, d2, d3, d4, d5, d6, d7, d8⟩ := (HS.out.below HSJ.out.bel).js (i := k) (by omega)
        obtain ⟨aw, cw, rfl, -, -⟩ := hwt.shape
        have HWT := Lib.hid hwt
        have HOK := Lib.hid hok
        obtain ⟨nw, hnw⟩ : ∃ n, n = x.raw.wit.length := ⟨_, rfl⟩
        rw [← hnw] at HWT d7
        obtain ⟨ri, hri⟩ : ∃ q, q = x.br % 3 := ⟨_, rfl⟩
        obtain ⟨rj, hrj⟩ : ∃ q, q = x.tag % 4 := ⟨_, rfl⟩
        have HM1 := Lib.hid (show ((x.br : Int)).tmod 3 = (ri : Int) by rw [Int.tmod_eq_emod_of_nonneg (by omega), hri]; rfl)
        have HM2 := Lib.hid (show ((x.tag : Int)).tmod 4 = (rj : Int) by rw [Int.tmod_eq_emod_of_nonneg (by omega), hrj]; rfl)
        have hri3 : ri < 3 := by omega
        have hrj4 : rj < 4 := by omega
        have HW1 := Lib.hid (show IntKind.i64.wrap (ri : Int) = (ri : Int) by rw [IntKind.wrap_i64]; omega)
        have HW2 := Lib.hid (show IntKind.u16.wrap (rj : Int) = (rj : Int) by simp [IntKind.wrap, IntKind.bits, IntKind.signed]; omega)
        clear hok hwt hnw hri hrj
        go_upto_region 5 with fail
        have hz := heap_alloc_new wo (.cells #[.int .u8 x.coin, .int .u8 x.br, .int .u8 x.tag, .int .u32 x.seq, .string x.raw.id, .int .u32 x.raw.idx, .int .u32 x.raw.seq, .slice aw nw cw, .bool x.odd] 91)
        have hal : Below wo.heap.size wo (wo.alloc (.cells #[.int .u8 x.coin, .int .u8 x.br, .int .u8 x.tag, .int .u32 x.seq, .string x.raw.id, .int .u32 x.raw.idx, .int .u32 x.raw.seq, .slice aw nw cw, .bool x.odd] 91)) := (Below.refl _ _).alloc (Nat.le_refl _) _
        obtain ⟨C, hC⟩ : ∃ q, q = wo.heap.size := ⟨_, rfl⟩
        rw [← hC] at hz ⊢
        generalize wo.alloc (.cells #[.int .u8 x.coin, .int .u8 x.br, .int .u8 x.tag, .int .u32 x.seq, .string x.raw.id, .int .u32 x.raw.idx, .int .u32 x.raw.seq, .slice aw nw cw, .bool x.odd] 91) = wc at *
        have HBC := Lib.hid hal
        have HCZ := Lib.hid hz
        have HCZ0 := Lib.hid hz
        have c1 : wc.cell? ⟨C, 1, none⟩ = some (.int .u8 x.br) := cell_at hz
        have c2 : wc.cell? ⟨C, 2, none⟩ = some (.int .u8 x.tag) := cell_at hz
        have c3 : wc.cell? ⟨C, 3, none⟩ = some (.int .u32 x.seq) := cell_at hz
        clear hz hal hC d0 d1 d2 d3 d4 d5 d6 d7 d8
        go_upto_region 5 with fail
        refine wp_region_stored (RG5 C x ri rj) 14 13 12 (by kernel_rfl) (by kernel_rfl) (by kernel_rfl) (by kernel_rfl) (by decide) (by kernel_rfl) (by decide) (by intro j hj v d lo hi w h; match j, hj, h with | 0, hj, h => exact h | 1, hj, h => exact h | 2, hj, h => exact h | 3, hj, h => exact h | 4, hj, h => exact h | 5, hj, h => exact h | 6, hj, h => exact h | 7, hj, h => exact h | 8, hj, h => exact h | 9, hj, h => exact h | 10, hj, h => exact h | 11, hj, h => exact h | 12, hj, h => exact absurd rfl hj | 13, hj, h => exact h | q + 14, hj, h => exact h) ?_ ?_
        · intro i o hi ho L xs lo hi' wr hmd hni hpre
          obtain ⟨x0, x1, x2, x3, x4, x5, x6, x7, x8, x9, x10, x11, x12, x13, rfl⟩ : ∃ x0 x1 x2 x3 x4 x5 x6 x7 x8 x9 x10 x11 x12 x13, xs = [x0, x1, x2, x3, x4, x5, x6, x7, x8, x9, x10, x11, x12, x13] := by match xs, hmd.len with | [x0, x1, x2, x3, x4, x5, x6, x7, x8, x9, x10, x11, x12, x13], _ => exact ⟨_, _, _, _, _, _, _, _, _, _, _, _, _, _, rfl⟩
          match i, ho with
          | 0, ho =>
            obtain rfl := Option.some.inj ho
            have kk := fun lx ox ax => sstep_pure (P := Tryz.prog) (R := RG5 C x ri rj) (s := 13) (l := lx) (w0 := wc) (L := L) (xs := [x0, x1, x2, x3, x4, x5, x6, x7, x8, x9, x10, x11, x12, x13]) (lo := lo) (hi := hi') (o := ox) (a := ax) (w := wr) (i := 0) (k := 12) (by decide) (.pointer (some ⟨C, 3, none⟩))
            refine kk _ _ _ ?_ ?_
            · kernel_rfl
            · exact rfl
          | 1, ho =>
            obtain rfl := Option.some.inj ho
            have h_0 : x0 = .pointer (some ⟨C, 3, none⟩) := hmd.rel 0 (hpre 0 (by kernel_rfl))
            subst h_0
            have t0 := below_cells hmd.bel _ _ c3
            have kk := fun lx ox ax => sstep_pure (P := Tryz.prog) (R := RG5 C x ri rj) (s := 13) (l := lx) (w0 := wc) (L := L) (xs := [(.pointer (some ⟨C, 3, none⟩)), x1, x2, x3, x4, x5, x6, x7, x8, x9, x10, x11, x12, x13]) (lo := lo) (hi := hi') (o := ox) (a := ax) (w := wr) (i := 1) (k := 12) (by decide) (.int .u32 x.seq)
            refine kk _ _ _ ?_ ?_
            · simp [putAll, execOp, go_sem, t0]
            · exact rfl
          | 2, ho =>
            obtain rfl := Option.some.inj ho
            have kk := fun lx ox ax => sstep_pure (P := Tryz.prog) (R := RG5 C x ri rj) (s := 13) (l := lx) (w0 := wc) (L := L) (xs := [x0, x1, x2, x3, x4, x5, x6, x7, x8, x9, x10, x11, x12, x13]) (lo := lo) (hi := hi') (o := ox) (a := ax) (w := wr) (i := 2) (k := 12) (by decide) (.pointer (some ⟨C, 1, none⟩))
            refine kk _ _ _ ?_ ?_
            · kernel_rfl
            · exact rfl
          | 3, ho =>
            obtain rfl := Option.some.inj ho
            have h_2 : x2 = .pointer (some ⟨C, 1, none⟩) := hmd.rel 2 (hpre 2 (by kernel_rfl))
            subst h_2
            have t0 := below_cells hmd.bel _ _ c1
            have kk := fun lx ox ax => sstep_pure (P := Tryz.prog) (R := RG5 C x ri rj) (s := 13) (l := lx) (w0 := wc) (L := L) (xs := [x0, x1, (.pointer (some ⟨C, 1, none⟩)), x3, x4, x5, x6, x7, x8, x9, x10, x11, x12, x13]) (lo := lo) (hi := hi') (o := ox) (a := ax) (w := wr) (i := 3) (k := 12) (by decide) (.int .u8 x.br)
            refine kk _ _ _ ?_ ?_
            · simp [putAll, execOp, go_sem, t0]
            · exact rfl
          | 4, ho =>
            obtain rfl := Option.some.inj ho
            have h_3 : x3 = .int .u8 x.br := hmd.rel 3 (hpre 3 (by kernel_rfl))
            subst h_3
            have kk := fun lx ox ax => sstep_pure (P := Tryz.prog) (R := RG5 C x ri rj) (s := 13) (l := lx) (w0 := wc) (L := L) (xs := [x0, x1, x2, (.int .u8 x.br), x4, x5, x6, x7, x8, x9, x10, x11, x12, x13]) (lo := lo) (hi := hi') (o := ox) (a := ax) (w := wr) (i := 4) (k := 12) (by decide) (.int .u8 ri)
            refine kk _ _ _ ?_ ?_
            · simp [putAll, execOp, go_sem, HM1.out]
            · exact rfl
          | 5, ho =>
            obtain rfl := Option.some.inj ho
            have h_4 : x4 = .int .u8 ri := hmd.rel 4 (hpre 4 (by kernel_rfl))
            subst h_4
            have kk := fun lx ox ax => sstep_pure (P := Tryz.prog) (R := RG5 C x ri rj) (s := 13) (l := lx) (w0 := wc) (L := L) (xs := [x0, x1, x2, x3, (.int .u8 ri), x5, x6, x7, x8, x9, x10, x11, x12, x13]) (lo := lo) (hi := hi') (o := ox) (a := ax) (w := wr) (i := 5) (k := 12) (by decide) (.int .i64 ri)
            refine kk _ _ _ ?_ ?_
            · simp [putAll, execOp, go_sem, HW1.out]
            · exact rfl
          | 6, ho =>
            obtain rfl := Option.some.inj ho
            have kk := fun lx ox ax => sstep_pure (P := Tryz.prog) (R := RG5 C x ri rj) (s := 13) (l := lx) (w0 := wc) (L := L) (xs := [x0, x1, x2, x3, x4, x5, x6, x7, x8, x9, x10, x11, x12, x13]) (lo := lo) (hi := hi') (o := ox) (a := ax) (w := wr) (i := 6) (k := 12) (by decide) (.pointer (some ⟨C, 2, none⟩))
            refine kk _ _ _ ?_ ?_
            · kernel_rfl
            · exact rfl
          | 7, ho =>
            obtain rfl := Option.some.inj ho
            have h_6 : x6 = .pointer (some ⟨C, 2, none⟩) := hmd.rel 6 (hpre 6 (by kernel_rfl))
            subst h_6
            have t0 := below_cells hmd.bel _ _ c2
            have kk := fun lx ox ax => sstep_pure (P := Tryz.prog) (R := RG5 C x ri rj) (s := 13) (l := lx) (w0 := wc) (L := L) (xs := [x0, x1, x2, x3, x4, x5, (.pointer (some ⟨C, 2, none⟩)), x7, x8, x9, x10, x11, x12, x13]) (lo := lo) (hi := hi') (o := ox) (a := ax) (w := wr) (i := 7) (k := 12) (by decide) (.int .u8 x.tag)
            refine kk _ _ _ ?_ ?_
            · simp [putAll, execOp, go_sem, t0]
            · exact rfl
          | 8, ho =>
            obtain rfl := Option.some.inj ho
            have h_7 : x7 = .int .u8 x.tag := hmd.rel 7 (hpre 7 (by kernel_rfl))
            subst h_7
            have kk := fun lx ox ax => sstep_pure (P := Tryz.prog) (R := RG5 C x ri rj) (s := 13) (l := lx) (w0 := wc) (L := L) (xs := [x0, x1, x2, x3, x4, x5, x6, (.int .u8 x.tag), x8, x9, x10, x11, x12, x13]) (lo := lo) (hi := hi') (o := ox) (a := ax) (w := wr) (i := 8) (k := 12) (by decide) (.int .u8 rj)
            refine kk _ _ _ ?_ ?_
            · simp [putAll, execOp, go_sem, HM2.out]
            · exact rfl
          | 9, ho =>
            obtain rfl := Option.some.inj ho
            have h_8 : x8 = .int .u8 rj := hmd.rel 8 (hpre 8 (by kernel_rfl))
            subst h_8
            have kk := fun lx ox ax => sstep_pure (P := Tryz.prog) (R := RG5 C x ri rj) (s := 13) (l := lx) (w0 := wc) (L := L) (xs := [x0, x1, x2, x3, x4, x5, x6, x7, (.int .u8 rj), x9, x10, x11, x12, x13]) (lo := lo) (hi := hi') (o := ox) (a := ax) (w := wr) (i := 9) (k := 12) (by decide) (.int .u16 rj)
            refine kk _ _ _ ?_ ?_
            · simp [putAll, execOp, go_sem, HW2.out]
            · exact rfl
          | 10, ho =>
            obtain rfl := Option.some.inj ho
            have h_5 : x5 = .int .i64 ri := hmd.rel 5 (hpre 5 (by kernel_rfl))
            subst h_5
            have h_9 : x9 = .int .u16 rj := hmd.rel 9 (hpre 9 (by kernel_rfl))
            subst h_9
            have kk := fun lx ox ax => sstep_call (P := Tryz.prog) (R := RG5 C x ri rj) (s := 13) (l := lx) (w0 := wc) (L := L) (xs := [x0, x1, x2, x3, x4, (.int .i64 ri), x6, x7, x8, (.int .u16 rj), x10, x11, x12, x13]) (lo := lo) (hi := hi') (o := ox) (a := ax) (w := wr) (i := 10) (k := 12) (by decide) (rsign_new ri rj hri3 (by omega) wr)
            refine kk _ _ _ ?_ ?_
            · kernel_rfl
            · exact fun e w' h => by obtain ⟨v, rfl, p, rfl, hp, hg, hb⟩ := h; exact ⟨_, rfl, hb, p, hp, lt_of hg, rfl, hg⟩
          | 11, ho =>
            obtain rfl := Option.some.inj ho
            have h_1 : x1 = .int .u32 x.seq := hmd.rel 1 (hpre 1 (by kernel_rfl))
            subst h_1
            have r10 : WitV (signW ri rj) x10 (lo 10) (hi' 10) wr := hmd.rel 10 (hpre 10 (by kernel_rfl))
            cases r10 with
            | intro pb r10 =>
            cases r10 with
            | intro _ r10 =>
            cases r10 with
            | intro _ r10 =>
            cases r10 with
            | intro r10 _ =>
            cases r10
            have kk := fun lx ox ax => sstep_pure (P := Tryz.prog) (R := RG5 C x ri rj) (s := 13) (l := lx) (w0 := wc) (L := L) (xs := [x0, (.int .u32 x.seq), x2, x3, x4, x5, x6, x7, x8, x9, (.slice (some ⟨pb, 0, none⟩) 1 1), x11, x12, x13]) (lo := lo) (hi := hi') (o := ox) (a := ax) (w := wr) (i := 11) (k := 12) (by decide) (.agg #[.string ⟨#[]⟩, .int .u32 (0 : Nat), .int .u32 x.seq, .slice (some ⟨pb, 0, none⟩) 1 1])
            refine kk _ _ _ ?_ ?_
            · kernel_rfl
            · exact rfl
          | 12, ho =>
            obtain rfl := Option.some.inj ho
            have kk := fun lx ox ax => sstep_new (P := Tryz.prog) (R := RG5 C x ri rj) (s := 13) (l := lx) (w0 := wc) (L := L) (xs := [x0, x1, x2, x3, x4, x5, x6, x7, x8, x9, x10, x11, x12, x13]) (lo := lo) (hi := hi') (o := ox) (a := ax) (w := wr) (i := 12) (k := 12) (by decide) (.pointer (some ⟨wr.heap.size, 0, none⟩)) (.cells #[.string ⟨#[]⟩, .int .u32 0, .int .u32 0, .slice none 0 0] 56)
            refine kk _ _ _ ?_ ?_
            · kernel_rfl
            · exact ⟨_, Nat.le_refl _, rfl, fun _ => ⟨by simp, heap_alloc_new wr _⟩⟩
          | 13, ho =>
            obtain rfl := Option.some.inj ho
            have l11 : L 11 := hpre 11 (by kernel_rfl)
            have l10 : L 10 := hmd.closed 11 l11 10 (by kernel_rfl)
            have h11 : x11 = .agg #[.string ⟨#[]⟩, .int .u32 (0 : Nat), .int .u32 x.seq, x10] := hmd.val l11 (fun d => .agg #[.string ⟨#[]⟩, .int .u32 (0 : Nat), .int .u32 x.seq, d.getD 1 undef]) rfl rfl (by kernel_rfl)
            have r10 : WitV (signW ri rj) x10 (lo 10) (hi' 10) wr := hmd.rel 10 l10
            have r12 : ∃ bq, lo 12 ≤ bq ∧ x12 = .pointer (some ⟨bq, 0, none⟩) ∧ (¬ L 13 → bq < hi' 12 ∧ wr.heap[bq]? = some (.cells #[.string ⟨#[]⟩, .int .u32 0, .int .u32 0, .slice none 0 0] 56 (0, 0))) := hmd.rel 12 (hpre 12 (by kernel_rfl))
            cases r10 with
            | intro pb r10 =>
            cases r10 with
            | intro _ r10 =>
            cases r10 with
            | intro _ r10 =>
            cases r10 with
            | intro r10 _ =>
            cases r10
            cases h11
            cases r12 with
            | intro bk h16 =>
            cases h16 with
            | intro _ h16 =>
            cases h16 with
            | intro h16 _ =>
            cases h16
            have kk := fun lx ox ax => sstep_row (P := Tryz.prog) (R := RG5 C x ri rj) (s := 13) (l := lx) (n := 14) (w0 := wc) (L := L) (xs := [x0, x1, x2, x3, x4, x5, x6, x7, x8, x9, .slice (some ⟨pb, 0, none⟩) 1 1, .agg #[.string ⟨#[]⟩, .int .u32 (0 : Nat), .int .u32 x.seq, .slice (some ⟨pb, 0, none⟩) 1 1], .pointer (some ⟨bk, 0, none⟩), x13]) (lo := lo) (hi := hi') (o := ox) (a := ax) (w := wr) (k := 12) (56) (.tmp 6) (.tmp 41) (56) #[.string ⟨#[]⟩, .int .u32 0, .int .u32 0, .slice none 0 0] #[.string ⟨#[]⟩, .int .u32 (0 : Nat), .int .u32 x.seq, .slice (some ⟨pb, 0, none⟩) 1 1] bk
            refine kk _ _ _ ?_ ?_ ?_ ?_ ?_ ?_ ?_ ?_ ?_ ?_ ?_ ?_ ?_ ?_ ?_
            · exact rfl
            · exact rfl
            · exact rfl
            · exact hmd
            · exact hni
            · exact hpre 12 (by kernel_rfl)
            · rfl
            · rfl
            · kernel_rfl
            · kernel_rfl
            · kernel_rfl
            · rfl
            · kernel_rfl
            · kernel_rfl
            · kernel_rfl
          | q + 14, ho => omega
        · intro xs lo hi wr hmd
          obtain ⟨x0, x1, x2, x3, x4, x5, x6, x7, x8, x9, x10, x11, x12, x13, rfl⟩ : ∃ x0 x1 x2 x3 x4 x5 x6 x7 x8 x9 x10 x11 x12 x13, xs = [x0, x1, x2, x3, x4, x5, x6, x7, x8, x9, x10, x11, x12, x13] := by match xs, hmd.len with | [x0, x1, x2, x3, x4, x5, x6, x7, x8, x9, x10, x11, x12, x13], _ => exact ⟨_, _, _, _, _, _, _, _, _, _, _, _, _, _, rfl⟩
          simp only [putAll]
          change wpList _ _ _ [] _ _
          have h11 : x11 = .agg #[.string ⟨#[]⟩, .int .u32 (0 : Nat), .int .u32 x.seq, x10] := hmd.val (show 11 < 14 by decide) (fun d => .agg #[.string ⟨#[]⟩, .int .u32 (0 : Nat), .int .u32 x.seq, d.getD 1 undef]) rfl rfl (by kernel_rfl)
          have r10 : WitV (signW ri rj) x10 (lo 10) (hi 10) wr := hmd.rel 10 (by decide)
          have r13 := hmd.st (show 13 < 14 by decide) (x := x12) (y := x11) (t := 56) rfl (by kernel_rfl) (by kernel_rfl)
          have hb2 := hmd.bel
          have hlo10 := hmd.lohi 10 (by decide)
          have hlo13 := hmd.lohi 13 (by decide)
          have hap := hmd.apart 10 13 (by decide) (by decide) (by decide)
          clear hmd
          obtain ⟨pw, hp1, hp2, h10, hpz⟩ := r10
          subst h10
          subst h11
          obtain ⟨I, csI, hI1, hI2, h12, h11', hIz⟩ := r13
          subst h12
          obtain rfl : csI = #[.string ⟨#[]⟩, .int .u32 (0 : Nat), .int .u32 x.seq, .slice (some ⟨pw, 0, none⟩) 1 1] := by injection h11' with e; exact e.symm
          have hwo : wo.heap.size ≤ wc.heap.size := HBC.out.size
          have hIo : wo.heap.size ≤ I ∧ wo.heap.size ≤ pw ∧ pw ≠ I := by omega
          have HB5 := Lib.hid (HBC.out.trans (hb2.mono HBC.out.size))
          have HSJ5 := Lib.hid (HSJ.out.next HB5.out)
          have HCZ := Lib.hid (stay HCZ.out hb2)
          have hCo : C < wc.heap.size ∧ C < I := by have := (Array.getElem?_eq_some_iff.1 HCZ0.out).1; omega
          have HIZ := Lib.hid hIz
          have HPZ := Lib.hid hpz
          have HWR := Lib.hid (And.intro (lt_of hIz) (lt_of hpz))
          generalize wr = w5 at *
          clear hb2 hlo10 hlo13 hap hp1 hp2 hpz hI1 hI2 h11' hIz c1 c2 c3
          have x0 : w5.cell? ⟨X, 0, none⟩ = some (.slice aj nj cj) := cell_at HSJ5.out.job
          go_upto_if 45 with fail
          go_cut [] (fun wx => ∃ (id : ByteArray) (idx : Nat), id.size ≤ maxLen ∧ idx < 4294967296 ∧ wx.heap[I]? = some (.cells #[.string id, .int .u32 idx, .int .u32 x.seq, .slice (some ⟨pw, 0, none⟩) 1 1] 56 (0, 0)) ∧ Fr [I] w5 wx)
          case first =>
            by_cases hnj : 0 < nj
            · obtain ⟨ci, hci⟩ : ∃ q, q = x.coin % nj := ⟨_, rfl⟩
              have hcl : ci < nj := by rw [hci]; exact Nat.mod_lt _ hnj
              obtain ⟨bj, oj, y, bv, rfl, -, hyo, hbv, d0, d1, d2, d3, d4, d5, d6⟩ := (HC.out.below HSJ5.out.bel).jc hcl
              obtain ⟨abv, cbv, rfl, -, -⟩ := hbv.shape
              clear hbv
              generalize y.br.length = nbv at *
              have hmm : ((x.coin : Int)).tmod (nj : Int) = (ci : Int) := by rw [Int.tmod_eq_emod_of_nonneg (by omega), hci]; rfl
              have hww : IntKind.i64.wrap (x.coin : Int) = (x.coin : Int) := by rw [IntKind.wrap_i64]; have := HOK.out.coin; omega
              have hn0 : ((nj : Int) == 0) = false := by rw [beq_eq_false_iff_ne]; omega
              have hi0 : (0 : Int) ≤ (ci : Int) := by omega
              have hi1 : (ci : Int) < (nj : Int) := by omega
              have e0 : w5.cell? ⟨C, 0, none⟩ = some (.int .u8 x.coin) := cell_at HCZ.out
              have e0' : ∀ o, (w5.alloc o).cell? ⟨C, 0, none⟩ = some (.int .u8 x.coin) := fun o => cell_over e0 o
              have x0' : ∀ o, (w5.alloc o).cell? ⟨X, 0, none⟩ = some (.slice (some ⟨bj, oj, none⟩) nj cj) := fun o => cell_over x0 o
              have d0' : ∀ o, (w5.alloc o).cell? ⟨bj, oj + ci * 7, none⟩ = _ := fun o => cell_over d0 o
              have d1' : ∀ o, (w5.alloc o).cell? ⟨bj, oj + ci * 7 + 1, none⟩ = _ := fun o => cell_over d1 o
              have d2' : ∀ o, (w5.alloc o).cell? ⟨bj, oj + ci * 7 + 2, none⟩ = _ := fun o => cell_over d2 o
              have d3' : ∀ o, (w5.alloc o).cell? ⟨bj, oj + ci * 7 + 3, none⟩ = _ := fun o => cell_over d3 o
              have d4' : ∀ o, (w5.alloc o).cell? ⟨bj, oj + ci * 7 + 4, none⟩ = _ := fun o => cell_over d4 o
              have d5' : ∀ o, (w5.alloc o).cell? ⟨bj, oj + ci * 7 + 5, none⟩ = _ := fun o => cell_over d5 o
              have d6' : ∀ o, (w5.alloc o).cell? ⟨bj, oj + ci * 7 + 6, none⟩ = _ := fun o => cell_over d6 o
              have HYO := Lib.hid hyo
              clear hci hyo
              go_upto_region 7 with fail
              go_region
              obtain ⟨D, hD⟩ : ∃ D, D = w5.heap.size := ⟨_, rfl⟩
              have hz6 : ((w5.alloc (.cells #[.int .u8 y.id, .int .u8 y.idx, .int .i64 y.val, .int .i64 y.ht, .slice abv nbv cbv, .string y.script, .bool y.raw] 84)).drew).heap[w5.heap.size]? = _ := heap_alloc_new w5 (.cells #[.int .u8 y.id, .int .u8 y.idx, .int .i64 y.val, .int .i64 y.ht, .slice abv nbv cbv, .string y.script, .bool y.raw] 84)
              have hb6 : Below w5.heap.size w5 ((w5.alloc (.cells #[.int .u8 y.id, .int .u8 y.idx, .int .i64 y.val, .int .i64 y.ht, .slice abv nbv cbv, .string y.script, .bool y.raw] 84)).drew) := ((Below.refl _ _).alloc (Nat.le_refl _) _).drew
              generalize (w5.alloc (.cells #[.int .u8 y.id, .int .u8 y.idx, .int .i64 y.val, .int .i64 y.ht, .slice abv nbv cbv, .string y.script, .bool y.raw] 84)).drew = w6 at *
              rw [← hD] at hz6 ⊢
              obtain ⟨ai, hai⟩ : ∃ q, q = y.id % 5 := ⟨_, rfl⟩
              obtain ⟨bi, hbi⟩ : ∃ q, q = y.idx % 2 := ⟨_, rfl⟩
              have hm1 : ((y.id : Int)).tmod 5 = (ai : Int) := by rw [Int.tmod_eq_emod_of_nonneg (by omega), hai]; rfl
              have hm2 : ((y.idx : Int)).tmod 2 = (bi : Int) := by rw [Int.tmod_eq_emod_of_nonneg (by omega), hbi]; rfl
              have ha5 : ai < 5 := by omega
              have hb2' : bi < 2 := by omega
              have hw1 : IntKind.i64.wrap (ai : Int) = (ai : Int) := by rw [IntKind.wrap_i64]; omega
              have hw2 : IntKind.u32.wrap (bi : Int) = (bi : Int) := by simp [IntKind.wrap, IntKind.bits, IntKind.signed]; omega
              have g0 : w6.cell? ⟨D, 0, none⟩ = some (.int .u8 y.id) := cell_at hz6
              have g1 : w6.cell? ⟨D, 1, none⟩ = some (.int .u8 y.idx) := cell_at hz6
              have hI6 := stay HIZ.out hb6
              have i0 : w6.cell? ⟨I, 0, none⟩ = some (.string ⟨#[]⟩) := cell_at hI6
              have i1 : w6.cell? ⟨I, 1, none⟩ = some (.int .u32 (0 : Nat)) := cell_at hI6
              have j0 : w6.frozen? ⟨I, 0, none⟩ = false := free_at hI6
              have j1 : w6.frozen? ⟨I, 1, none⟩ = false := free_at hI6
              have HID := Lib.hid (fun y => id_any ai y)
              have HI6 := Lib.hid hI6
              have HB6 := Lib.hid hb6
              have hID : I ≠ D := by have := HWR.out.1; omega
              have HDI := Lib.hid hID
              have HA1 := Lib.hid hm1
              have HA2 := Lib.hid hw1
              have HB1 := Lib.hid hm2
              have HB2 := Lib.hid hw2
              clear hm1 hw1 hm2 hw2
              clear hz6 hb6 hI6 hD hai hbi d0 d1 d2 d3 d4 d5 d6 d0' d1' d2' d3' d4' d5' d6' x0' e0 e0' hmm hww hn0 hi0 hi1 x0
              go_upto_region 8 with fail
              refine wp_region_made (RG8 D y ai bi) 10 (by kernel_rfl) (by kernel_rfl) (by kernel_rfl) (by kernel_rfl) (by decide) (by kernel_rfl) ?_ ?_
              · intro i o hi ho L xs lo hi' wr hmd hni hpre
                obtain ⟨x0, x1, x2, x3, x4, x5, x6, x7, x8, x9, rfl⟩ : ∃ x0 x1 x2 x3 x4 x5 x6 x7 x8 x9, xs = [x0, x1, x2, x3, x4, x5, x6, x7, x8, x9] := by match xs, hmd.len with | [x0, x1, x2, x3, x4, x5, x6, x7, x8, x9], _ => exact ⟨_, _, _, _, _, _, _, _, _, _, rfl⟩
                match i, ho with
                | 0, ho =>
                  obtain rfl := Option.some.inj ho
                  have kk := fun lx ox ax => @step_pure Tryz.prog (RG8 D y ai bi) lx [x0, x1, x2, x3, x4, x5, x6, x7, x8, x9] ox ax wr 0 (.pointer (some ⟨D, 0, none⟩))
                  refine kk _ _ _ ?_ ?_
                  · kernel_rfl
                  · exact rfl
                | 1, ho =>
                  obtain rfl := Option.some.inj ho
                  have h_0 : x0 = .pointer (some ⟨D, 0, none⟩) := hmd.rel 0 (hpre 0 (by kernel_rfl))
                  subst h_0
                  have t0 := below_cells hmd.bel _ _ g0
                  have kk := fun lx ox ax => @step_pure Tryz.prog (RG8 D y ai bi) lx [(.pointer (some ⟨D, 0, none⟩)), x1, x2, x3, x4, x5, x6, x7, x8, x9] ox ax wr 1 (.int .u8 y.id)
                  refine kk _ _ _ ?_ ?_
                  · simp [putAll, execOp, go_sem, t0]
                  · exact rfl
                | 2, ho =>
                  obtain rfl := Option.some.inj ho
                  have h_1 : x1 = .int .u8 y.id := hmd.rel 1 (hpre 1 (by kernel_rfl))
                  subst h_1
                  have kk := fun lx ox ax => @step_pure Tryz.prog (RG8 D y ai bi) lx [x0, (.int .u8 y.id), x2, x3, x4, x5, x6, x7, x8, x9] ox ax wr 2 (.int .u8 ai)
                  refine kk _ _ _ ?_ ?_
                  · simp [putAll, execOp, go_sem, HA1.out]
                  · exact rfl
                | 3, ho =>
                  obtain rfl := Option.some.inj ho
                  have h_2 : x2 = .int .u8 ai := hmd.rel 2 (hpre 2 (by kernel_rfl))
                  subst h_2
                  have kk := fun lx ox ax => @step_pure Tryz.prog (RG8 D y ai bi) lx [x0, x1, (.int .u8 ai), x3, x4, x5, x6, x7, x8, x9] ox ax wr 3 (.int .i64 ai)
                  refine kk _ _ _ ?_ ?_
                  · simp [putAll, execOp, go_sem, HA2.out]
                  · exact rfl
                | 4, ho =>
                  obtain rfl := Option.some.inj ho
                  have h_3 : x3 = .int .i64 ai := hmd.rel 3 (hpre 3 (by kernel_rfl))
                  subst h_3
                  have kk := fun lx ox ax => @step_call Tryz.prog (RG8 D y ai bi) lx [x0, x1, x2, (.int .i64 ai), x4, x5, x6, x7, x8, x9] ox ax wr 4 _ _ _ (id_any ai wr)
                  refine kk _ _ _ ?_ ?_
                  · kernel_rfl
                  · exact fun e w' ⟨he, hb⟩ => ⟨_, he, hb, rfl⟩
                | 5, ho =>
                  obtain rfl := Option.some.inj ho
                  have kk := fun lx ox ax => @step_pure Tryz.prog (RG8 D y ai bi) lx [x0, x1, x2, x3, x4, x5, x6, x7, x8, x9] ox ax wr 5 (.pointer (some ⟨D, 1, none⟩))
                  refine kk _ _ _ ?_ ?_
                  · kernel_rfl
                  · exact rfl
                | 6, ho =>
                  obtain rfl := Option.some.inj ho
                  have h_5 : x5 = .pointer (some ⟨D, 1, none⟩) := hmd.rel 5 (hpre 5 (by kernel_rfl))
                  subst h_5
                  have t0 := below_cells hmd.bel _ _ g1
                  have kk := fun lx ox ax => @step_pure Tryz.prog (RG8 D y ai bi) lx [x0, x1, x2, x3, x4, (.pointer (some ⟨D, 1, none⟩)), x6, x7, x8, x9] ox ax wr 6 (.int .u8 y.idx)
                  refine kk _ _ _ ?_ ?_
                  · simp [putAll, execOp, go_sem, t0]
                  · exact rfl
                | 7, ho =>
                  obtain rfl := Option.some.inj ho
                  have h_6 : x6 = .int .u8 y.idx := hmd.rel 6 (hpre 6 (by kernel_rfl))
                  subst h_6
                  have kk := fun lx ox ax => @step_pure Tryz.prog (RG8 D y ai bi) lx [x0, x1, x2, x3, x4, x5, (.int .u8 y.idx), x7, x8, x9] ox ax wr 7 (.int .u8 bi)
                  refine kk _ _ _ ?_ ?_
                  · simp [putAll, execOp, go_sem, HB1.out]
                  · exact rfl
                | 8, ho =>
                  obtain rfl := Option.some.inj ho
                  have h_7 : x7 = .int .u8 bi := hmd.rel 7 (hpre 7 (by kernel_rfl))
                  subst h_7
                  have kk := fun lx ox ax => @step_pure Tryz.prog (RG8 D y ai bi) lx [x0, x1, x2, x3, x4, x5, x6, (.int .u8 bi), x8, x9] ox ax wr 8 (.int .u32 bi)
                  refine kk _ _ _ ?_ ?_
                  · simp [putAll, execOp, go_sem, HB2.out]
                  · exact rfl
                | 9, ho =>
                  obtain rfl := Option.some.inj ho
                  have h_4 : x4 = .string (idB ai) := hmd.rel 4 (hpre 4 (by kernel_rfl))
                  subst h_4
                  have h_8 : x8 = .int .u32 bi := hmd.rel 8 (hpre 8 (by kernel_rfl))
                  subst h_8
                  have kk := fun lx ox ax => @step_pure Tryz.prog (RG8 D y ai bi) lx [x0, x1, x2, x3, (.string (idB ai)), x5, x6, x7, (.int .u32 bi), x9] ox ax wr 9 (.agg #[.string (idB ai), .int .u32 bi])
                  refine kk _ _ _ ?_ ?_
                  · kernel_rfl
                  · exact rfl
                | q + 10, ho => omega
              · intro xs lo hi wr hmd
                obtain ⟨x0, x1, x2, x3, x4, x5, x6, x7, x8, x9, rfl⟩ : ∃ x0 x1 x2 x3 x4 x5 x6 x7 x8 x9, xs = [x0, x1, x2, x3, x4, x5, x6, x7, x8, x9] := by match xs, hmd.len with | [x0, x1, x2, x3, x4, x5, x6, x7, x8, x9], _ => exact ⟨_, _, _, _, _, _, _, _, _, _, rfl⟩
                simp only [putAll]
                change wpList _ _ _ (_ :: _ :: []) _ _
                have h9 : x9 = .agg #[.string (idB ai), .int .u32 bi] := hmd.rel 9 (by decide)
                subst h9
                have hr := stay HI6.out hmd.bel
                have q0 : wr.cell? ⟨I, 0, none⟩ = some (.string ⟨#[]⟩) := cell_at hr
                have q1 : wr.cell? ⟨I, 1, none⟩ = some (.int .u32 (0 : Nat)) := cell_at hr
                have f0 : wr.frozen? ⟨I, 0, none⟩ = false := free_at hr
                have f1 : wr.frozen? ⟨I, 1, none⟩ = false := free_at hr
                have HF := Lib.hid (And.intro (heap_setCell_at (j := 1) (u := .int .u32 bi) (heap_setCell_at (j := 0) (u := .string (idB ai)) hr))
                  (show Fr [I] w5 ((wr.setCell ⟨I, 0, none⟩ (.string (idB ai))).setCell ⟨I, 1, none⟩ (.int .u32 bi)) from ((Fr.of_below HB6.out [I]).transF ((Fr.of_below hmd.bel [I]).transF (Fr.setCell _ _ _ (by simp)))).transF (Fr.setCell _ _ _ (by simp))))
                clear hmd hr
                go_wp2_with fail
                go_meet
                exact ⟨idB ai, bi, by rw [idB_size, maxLen_eq]; decide, by omega, HF.out.1, HF.out.2⟩
            · obtain rfl : nj = 0 := by omega
              go_wp2_with fail
              go_meet
              exact ⟨⟨#[]⟩, 0, by rw [maxLen_eq]; decide, by decide, HIZ.out, Fr.refl _ _⟩
          case rest =>
            rename World => w6
            obtain ⟨id, idx, hid, hidx, hI6, hfr⟩ := hcut
            have HF6 := Lib.hid hfr
            have HBO := Lib.hid (HB5.out.trans (hfr.below HB5.out.size (by intro k hk; rw [List.mem_singleton.1 hk]; exact hIo.1)))
            have HSJ6 := Lib.hid (HSJ.out.next HBO.out)
            have HP6 := Lib.hid ((hfr.block pw HWR.out.2 (by simp; exact hIo.2.2)).trans HPZ.out)
            have HC6 := Lib.hid ((hfr.block C (by have := HWR.out.1; omega) (by simp; omega)).trans HCZ.out)
            have HI6 := Lib.hid hI6
            have HID := Lib.hid (And.intro hid hidx)
            have c8 : w6.cell? ⟨C, 8, none⟩ = some (.bool x.odd) := cell_at HC6.out
            obtain ⟨od, hod⟩ : ∃ b, b = x.odd := ⟨_, rfl⟩
            rw [← hod] at c8
            have HSo := Lib.hid (show S ≤ wo.heap.size from HSJ.out.sz)
            clear hI6 hfr hid hidx hod
            go_upto_if 69 with fail
            go_cut [] (fun wx => ∃ (y : PIn) (wv : Value), OkIn y ∧ (∃ wa wc, wv = .slice wa y.wit.length wc) ∧ wx.heap[I]? = some (.cells #[.string y.id, .int .u32 y.idx, .int .u32 y.seq, wv] 56 (0, 0)) ∧ wx.ownsRow S 9 1 wv y.wit.length (strCells y.wit) ∧ (∀ b, wv.ownBlock = some b → wo.heap.size ≤ b ∧ b < wx.heap.size) ∧ Below wo.heap.size wo wx)
            case first =>
              cases od
              · go_wp2_with fail
                go_meet
                exact ⟨⟨id, idx, x.seq, [signW ri rj]⟩, _, ⟨HID.out.1, HID.out.2, HOK.out.seq, fun s hs => by rw [List.mem_singleton.1 hs, signW_size]; decide⟩, ⟨_, _, rfl⟩, HI6.out, own_strJ (by have := HSo.out; omega) HP6.out, fun b hb => by
                  obtain rfl : pw = b := by simpa [Value.ownBlock] using hb
                  exact ⟨hIo.2.1, lt_of HP6.out⟩, HBO.out⟩
              · have c4 : w6.cell? ⟨C, 4, none⟩ = some (.string x.raw.id) := cell_at HC6.out
                have c5 : w6.cell? ⟨C, 5, none⟩ = some (.int .u32 x.raw.idx) := cell_at HC6.out
                have c6 : w6.cell? ⟨C, 6, none⟩ = some (.int .u32 x.raw.seq) := cell_at HC6.out
                have c7 : w6.cell? ⟨C, 7, none⟩ = some (.slice aw nw cw) := cell_at HC6.out
                have HW6 := Lib.hid (HWT.out.below HBO.out)
                have HCU2 := Lib.hid (fun (wy : World) (p : Nat) (h : wy.heap[p]? = some (.cells #[.string x.raw.id, .int .u32 x.raw.idx, .int .u32 x.raw.seq, .slice aw nw cw] 56 (0, 0))) (hb : Below w6.heap.size w6 wy) =>
                  cut_any (.agg #[.int .u32 (0 : Nat), .slice (some ⟨p, 0, none⟩) 1 1, .slice none 0 0, .int .u32 (0 : Nat)]) ⟨0, [x.raw], [], 0⟩ 6 wy ⟨_, _, rfl, one_at h (HW6.out.below hb) HOK.out.id HOK.out.idx HOK.out.rseq, sl_nil, by show 0 < _; decide, by show 0 < _; decide⟩ (by decide))
                go_wp2_with fail
                have hz7 := heap_alloc_new w6 (.cells #[.string x.raw.id, .int .u32 x.raw.idx, .int .u32 x.raw.seq, .slice aw nw cw] 56)
                have hb7 : Below w6.heap.size w6 (w6.alloc (.cells #[.string x.raw.id, .int .u32 x.raw.idx, .int .u32 x.raw.seq, .slice aw nw cw] 56)) := (Below.refl _ _).alloc (Nat.le_refl _) _
                refine (HCU2.out _ _ hz7 hb7).mono ?_
                rintro e w8 ⟨v, rfl, hto, hb8⟩
                obtain ⟨b4, c4', vo4, wa4, wc4, h4, h4b, d0, d1, d2, d3, hrw, hrk, hok4⟩ := cutOneIs hto
                subst h4
                have hbb := hb7.trans (hb8.mono hb7.size)
                have hI8 := stay HI6.out hbb
                have hbs := hb7.size
                generalize w6.alloc (.cells #[.string x.raw.id, .int .u32 x.raw.idx, .int .u32 x.raw.seq, .slice aw nw cw] 56) = w7 at *
                have i0 : w8.cell? ⟨I, 0, none⟩ = some (.string id) := cell_at hI8
                have i1 : w8.cell? ⟨I, 1, none⟩ = some (.int .u32 idx) := cell_at hI8
                have i2 : w8.cell? ⟨I, 2, none⟩ = some (.int .u32 x.seq) := cell_at hI8
                have i3 : w8.cell? ⟨I, 3, none⟩ = some (.slice (some ⟨pw, 0, none⟩) 1 1) := cell_at hI8
                have g0 : w8.frozen? ⟨I, 0, none⟩ = false := free_at hI8
                have g1 : w8.frozen? ⟨I, 1, none⟩ = false := free_at hI8
                have g2 : w8.frozen? ⟨I, 2, none⟩ = false := free_at hI8
                have g3 : w8.frozen? ⟨I, 3, none⟩ = false := free_at hI8
                have hI6l := lt_of HI6.out
                have HE := Lib.hid (heap_setCell_at (j := 3) (u := .slice wa4 (cutIn x.raw).wit.length wc4) (heap_setCell_at (j := 2) (u := .int .u32 (cutIn x.raw).seq) (heap_setCell_at (j := 1) (u := .int .u32 (cutIn x.raw).idx) (heap_setCell_at (j := 0) (u := .string (cutIn x.raw).id) hI8))))
                have hk : ∀ b, b ≠ I → ((((w8.setCell ⟨I, 0, none⟩ (.string (cutIn x.raw).id)).setCell ⟨I, 1, none⟩ (.int .u32 (cutIn x.raw).idx)).setCell ⟨I, 2, none⟩ (.int .u32 (cutIn x.raw).seq)).setCell ⟨I, 3, none⟩ (.slice wa4 (cutIn x.raw).wit.length wc4)).heap[b]? = w8.heap[b]? := fun b hb => by
                  rw [Below.heap_setCell _ _ _ _ hb, Below.heap_setCell _ _ _ _ hb, Below.heap_setCell _ _ _ _ hb, Below.heap_setCell _ _ _ _ hb]
                have hb2 := ((((HBO.out.trans (hbb.mono HBO.out.size)).setCell (p := ⟨I, 0, none⟩) hIo.1 (.string (cutIn x.raw).id)).setCell (p := ⟨I, 1, none⟩) hIo.1 (.int .u32 (cutIn x.raw).idx)).setCell (p := ⟨I, 2, none⟩) hIo.1 (.int .u32 (cutIn x.raw).seq)).setCell (p := ⟨I, 3, none⟩) hIo.1 (.slice wa4 (cutIn x.raw).wit.length wc4)
                have hsz : w8.heap.size ≤ ((((w8.setCell ⟨I, 0, none⟩ (.string (cutIn x.raw).id)).setCell ⟨I, 1, none⟩ (.int .u32 (cutIn x.raw).idx)).setCell ⟨I, 2, none⟩ (.int .u32 (cutIn x.raw).seq)).setCell ⟨I, 3, none⟩ (.slice wa4 (cutIn x.raw).wit.length wc4)).heap.size :=
                  (((((Below.refl 0 w8).setCell (p := ⟨I, 0, none⟩) (Nat.zero_le _) (.string (cutIn x.raw).id)).setCell (p := ⟨I, 1, none⟩) (Nat.zero_le _) (.int .u32 (cutIn x.raw).idx)).setCell (p := ⟨I, 2, none⟩) (Nat.zero_le _) (.int .u32 (cutIn x.raw).seq)).setCell (p := ⟨I, 3, none⟩) (Nat.zero_le _) (.slice wa4 (cutIn x.raw).wit.length wc4)).size
                have HR := Lib.hid (And.intro (ownsRow_of_block hrw fun k e => hk k (by have := (hrw.lt k e).1; omega)) (And.intro hrw.lt hrk))
                have hwo6 : wo.heap.size ≤ w6.heap.size := HBO.out.size
                have hS6 : S ≤ w6.heap.size := HSJ6.out.sz
                have HX := Lib.hid (And.intro hb2 (And.intro hsz hok4))
                clear hb2 hsz hk hrw hrk hto
                go_wp2_with (first | (refine wpList_run_of (.field 35 (.tmp 74) 1) rfl rfl (v := .slice (some ⟨b4, 0, none⟩) 1 c4') (w' := w8) (by kernel_rfl) ?_) | (refine wpList_run_of (.indexAddr 33 (.tmp 75) (.const (.int .i64 0))) rfl rfl (v := .pointer (some ⟨b4, 0, none⟩)) (w' := w8) (by kernel_rfl) ?_))
                go_meet
                exact ⟨cutIn x.raw, _, HX.out.2.2, ⟨_, _, rfl⟩, HE.out, ownsRow_base HR.out.1 (by omega), fun b hb => ⟨by have := (HR.out.2.1 b hb).1; omega, Nat.lt_of_lt_of_le (HR.out.2.2 b hb) HX.out.2.1⟩, HX.out.1⟩
            case rest =>
              rename World => w7
              obtain ⟨y, wv', hyo, ⟨wa, wc', rfl⟩, hI7, hrow, hnew, hb7⟩ := hcut
              have HSJ7 := Lib.hid (HSJ.out.next hb7)
              obtain ⟨a8, c8', w8, hrun, hbox, hsj8⟩ := HSJ7.out.app (N := wo.heap.size) (by omega) hwT hTS hXw HNT.out HOT.out (by have := HPL.out; omega) hyo hrow (fun b hb => (HSJ.out.ins.lt hb).2) hnew rfl
              have HR := Lib.hid hrun
              have HS8 := Lib.hid hsj8
              have t1 : w7.cell? ⟨T, 1, none⟩ = some (.slice ia ps.length ic) := cell_at HSJ7.out.box
              have u1 : w8.cell? ⟨T, 1, none⟩ = some (.slice ia ps.length ic) := cell_at hbox
              have f1 : w8.frozen? ⟨T, 1, none⟩ = false := free_at hbox
              have i0 : w7.cell? ⟨I, 0, none⟩ = some (.string y.id) := cell_at hI7
              have i1 : w7.cell? ⟨I, 1, none⟩ = some (.int .u32 y.idx) := cell_at hI7
              have i2 : w7.cell? ⟨I, 2, none⟩ = some (.int .u32 y.seq) := cell_at hI7
              have i3 : w7.cell? ⟨I, 3, none⟩ = some (.slice wa y.wit.length wc') := cell_at hI7
              clear hrun hsj8 hbox hI7 hrow hnew hb7 hyo
              go_wp2_with (at_builtin; refine wpList_append_run rfl (.tmp 79) (.tmp 81) 33 33 rfl rfl rfl HR.out ?_)
              go_roundg (q - (k + 1))
              case measure => have := HGK.out; omega
              case rel => exact ⟨k + 1, _, _, _, rfl, by omega, by go_num, by rw [List.length_append, HPL.out]; rfl, HS8.out⟩
      · obtain rfl : q = k := by omega
        have b0 : wo.cell? ⟨T, 0, none⟩ = some (.int .u32 ver) := cell_at HSJ.out.box
        have b1 : wo.cell? ⟨T, 1, none⟩ = some (.slice ia ps.length ic) := cell_at HSJ.out.box
        have b2 : wo.cell? ⟨T, 2, none⟩ = some (.slice oa outs.length oc) := cell_at HSJ.out.box
        have b3 : wo.cell? ⟨T, 3, none⟩ = some (.int .u32 lock) := cell_at HSJ.out.box
        have r0 : wo.cell? ⟨X + 1, 0, none⟩ = some (.int .u32 0) := cell_at HSJ.out.res
        have r1 : wo.cell? ⟨X + 1, 1, none⟩ = some (.slice none 0 0) := cell_at HSJ.out.res
        have r2 : wo.cell? ⟨X + 1, 2, none⟩ = some (.slice none 0 0) := cell_at HSJ.out.res
        have r3 : wo.cell? ⟨X + 1, 3, none⟩ = some (.int .u32 0) := cell_at HSJ.out.res
        have g0 : wo.frozen? ⟨X + 1, 0, none⟩ = false := free_at HSJ.out.res
        have g1 : wo.frozen? ⟨X + 1, 1, none⟩ = false := free_at HSJ.out.res
        have g2 : wo.frozen? ⟨X + 1, 2, none⟩ = false := free_at HSJ.out.res
        have g3 : wo.frozen? ⟨X + 1, 3, none⟩ = false := free_at HSJ.out.res
        have HR2 := Lib.hid (heap_setCell_at (j := 3) (u := .int .u32 lock) (heap_setCell_at (j := 2) (u := .slice oa outs.length oc) (heap_setCell_at (j := 1) (u := .slice ia ps.length ic) (heap_setCell_at (j := 0) (u := .int .u32 ver) HSJ.out.res))))
        have hk : ∀ b, b ≠ X + 1 → ((((wo.setCell ⟨X + 1, 0, none⟩ (.int .u32 ver)).setCell ⟨X + 1, 1, none⟩ (.slice ia ps.length ic)).setCell ⟨X + 1, 2, none⟩ (.slice oa outs.length oc)).setCell ⟨X + 1, 3, none⟩ (.int .u32 lock)).heap[b]? = wo.heap[b]? := fun b hb => by
          rw [Below.heap_setCell _ _ _ _ hb, Below.heap_setCell _ _ _ _ hb, Below.heap_setCell _ _ _ _ hb, Below.heap_setCell _ _ _ _ hb]
        have hb2 := (((HSJ.out.bel.setCell (p := ⟨X + 1, 0, none⟩) (show w.heap.size ≤ X + 1 by omega) (.int .u32 ver)).setCell (p := ⟨X + 1, 1, none⟩) (show w.heap.size ≤ X + 1 by omega) (.slice ia ps.length ic)).setCell (p := ⟨X + 1, 2, none⟩) (show w.heap.size ≤ X + 1 by omega) (.slice oa outs.length oc)).setCell (p := ⟨X + 1, 3, none⟩) (show w.heap.size ≤ X + 1 by omega) (.int .u32 lock)
        have hx0 := cell_at (j := 0) HR2.out
        have hx1 := cell_at (j := 1) HR2.out
        have hx2 := cell_at (j := 2) HR2.out
        have hx3 := cell_at (j := 3) HR2.out
        have hown : TxOwn w.heap.size ((((wo.setCell ⟨X + 1, 0, none⟩ (.int .u32 ver)).setCell ⟨X + 1, 1, none⟩ (.slice ia ps.length ic)).setCell ⟨X + 1, 2, none⟩ (.slice oa outs.length oc)).setCell ⟨X + 1, 3, none⟩ (.int .u32 lock)) (.agg #[.int .u32 ver, .slice ia ps.length ic, .slice oa outs.length oc, .int .u32 lock]) ⟨ver, ps.map (·.1), outs, lock⟩ :=
          ⟨⟨_, _, ps, rfl, rfl, (HSJ.out.ins.kept fun b hb => hk b (by have := (HSJ.out.ins.lt hb).1; omega)).base (by omega), HSJ.out.outs.kept fun b hb => hk b (HNX.out b hb), fun b hb hi => by have := (HSJ.out.ins.lt hi).1; have := HOT.out b hb; omega⟩, HVL.out.1, HVL.out.2⟩
        go_wp2_with fail
        exact bodyPost_ret (v := .agg #[.int .u32 ver, .slice ia ps.length ic, .slice oa outs.length oc, .int .u32 lock]) (by simp [results, Tryz.results8, go_sem, hx0, hx1, hx2, hx3]) rfl ⟨_, _, rfl, hown, HOL.out, by show (ps.map _).length ≤ 6; rw [List.length_map, HPL.out]; omega, hb2⟩
end Go.Proofs.YtelindgnkpfkiaaGreatDoor
