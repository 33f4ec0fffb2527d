/-
  The document's reading: ins, outs. Conditions: the place is in the text.
-/
import Derived.Test.YtmcknjldimnaoaaRh
import Derived.Test.YtmcknjldimnaoaaRe
namespace Go.Proofs.Ytmcknjldimnaoaa
open Go.RowKit Go.BigFrame
set_option linter.unusedVariables false
set_option linter.unusedSimpArgs false

/-- The state's box B, the result's behind it. -/
structure RI (w : World) (B : Nat) (z : Zst) (wr : World) : Prop where
  bel : Below w.heap.size w wr
  box : wr.heap[B]? = some (.cells #[.int .i64 z.at_, .int .i64 z.err] 76 (0, 0))
  res : wr.heap[B + 1]? = some (.cells #[.int .i64 0, .int .i64 0] 76 (0, 0))
  is : B = w.heap.size
theorem RI.step {w wr wq : World} {B : Nat} {z : Zst} (h : RI w B z wr) (hb : Below wr.heap.size wr wq) (z' : Zst) :
    RI w B z' ((wq.setCell ⟨B, 0, none⟩ (.int .i64 z'.at_)).setCell ⟨B, 1, none⟩ (.int .i64 z'.err)) ∧
    (∀ b, b < wr.heap.size → b ≠ B → ((wq.setCell ⟨B, 0, none⟩ (.int .i64 z'.at_)).setCell ⟨B, 1, none⟩ (.int .i64 z'.err)).heap[b]? = wr.heap[b]?) ∧
    wr.heap.size ≤ ((wq.setCell ⟨B, 0, none⟩ (.int .i64 z'.at_)).setCell ⟨B, 1, none⟩ (.int .i64 z'.err)).heap.size ∧
    wq.cell? ⟨B, 0, none⟩ = some (.int .i64 z.at_) ∧ wq.cell? ⟨B, 1, none⟩ = some (.int .i64 z.err) ∧ wq.frozen? ⟨B, 0, none⟩ = false ∧ wq.frozen? ⟨B, 1, none⟩ = false := by
  have hB := (Array.getElem?_eq_some_iff.1 h.box).1
  have hX := (Array.getElem?_eq_some_iff.1 h.res).1
  have hq := (hb.block B hB).trans h.box
  have e : ∀ b, b ≠ B → ((wq.setCell ⟨B, 0, none⟩ (.int .i64 z'.at_)).setCell ⟨B, 1, none⟩ (.int .i64 z'.err)).heap[b]? = wq.heap[b]? := fun b hne => by
    rw [Below.heap_setCell _ _ _ _ hne, Below.heap_setCell _ _ _ _ hne]
  refine ⟨⟨?_, (two_cells' hq _ _).1, ?_, h.is⟩, fun b h1 h2 => (e b h2).trans (hb.block b h1), by rw [World.size_setCell, World.size_setCell]; exact hb.size, cell_at hq, cell_at hq, free_at hq, free_at hq⟩
  · exact ((h.bel.trans (hb.mono h.bel.size)).setCell (p := ⟨B, 0, none⟩) (by have := h.is; dsimp only; omega) _).setCell (p := ⟨B, 1, none⟩) (by have := h.is; dsimp only; omega) _
  · exact (e _ (by omega)).trans ((hb.block _ hX).trans h.res)
theorem RI.below {w wr w' : World} {B N : Nat} {z : Zst} (h : RI w B z wr) (hb : Below N wr w') (hN : B + 2 ≤ N) : RI w B z w' :=
  ⟨h.bel.trans (hb.mono (by have := h.is; omega)), (hb.block B (by omega)).trans h.box, (hb.block (B + 1) (by omega)).trans h.res, h.is⟩
theorem OutsOwn.kept2 {base : Nat} {w w' : World} {v : Value} {l : List POut} (h : OutsOwn base w v l) (hk : ∀ b, base ≤ b → b < w.heap.size → w'.heap[b]? = w.heap[b]?) : OutsOwn base w' v l := h.kept fun b hb => hk b (h.row.lt b hb).1 (h.row.lt b hb).2
theorem InsOwn.kept3 {base : Nat} {w w' : World} {v : Value} {ps : List (PIn × Value)} (h : InsOwn base w v ps) (hk : ∀ b, base ≤ b → b < w.heap.size → w'.heap[b]? = w.heap[b]?) : InsOwn base w' v ps := h.kept fun b hb => hk b (h.lt hb).1 (h.lt hb).2
theorem repZ_stay {α : Type} {F : Prs α} {q : α → List UInt8} {ok : α → Prop} (h : Psr F q ok) (l : List UInt8) (z : Zst) (k : Nat) (he : (repZ F k l z).1.err ≠ 0) : ∀ m, (repZ F (k + m) l z).1 = (repZ F k l z).1
  | 0 => rfl
  | m + 1 => by
    have ih := repZ_stay h l z k he m
    show (F l (repZ F (k + m) l z).1).1 = _
    rw [ih]
    exact h.stay l _ he
/-- One In more, of no witness. -/
theorem in_app {wr : World} {base : Nat} {a : Option Addr} {n c : Nat} {ps : List (PIn × Value)} (h1 : InsOwn base wr (.slice a n c) ps) (hl : ps.length = n) (hn : n ≤ 1000) (hb : base ≤ wr.heap.size) (x : PIn) (hw : x.wit = []) (hx : OkIn x) :
    ∃ a' c' w', (Builtin.append_ #[23, 23] 23 #[.slice a n c, .slice (some ⟨wr.heap.size, 0, none⟩) 1 1]).run Try.prog (wr.alloc (.cells #[.string x.id, .int .u32 x.idx, .int .u32 x.seq, .slice none 0 0] 47)) = .ok (.slice a' (n + 1) c') w' ∧
      Below base wr w' ∧ InsOwn base w' (.slice a' (n + 1) c') (ps ++ [(x, .slice none 0 0)]) ∧ wr.heap.size ≤ w'.heap.size := by
  subst hl
  obtain ⟨i0, hi, hz0, hz1, hz2⟩ := info_parts info_in
  obtain ⟨a3, c3, w3, hrun, hown3, hb3, hg3, hv3⟩ := append_one (P := Try.prog) Try.underlying23 hi hz0 hz1 hz2 rfl h1.row #[.string x.id, .int .u32 x.idx, .int .u32 x.seq, .slice none 0 0] rfl (by simp [Value.oneCell']) (by rw [maxLen_eq]; omega) (by omega) hb (ty := 23)
  have hkeep : ∀ k, k < wr.heap.size → (Value.slice a ps.length c).ownBlock ≠ some k → w3.heap[k]? = wr.heap[k]? := fun k hk hne => by
    rw [hg3.block k (by simp; omega) (fun e => hne e.symm)]
    exact Below.heap_alloc _ _ k hk
  refine ⟨a3, c3, w3, hrun, hb3, h1.snoc hown3 ?_ hkeep ?_ hx (fun k e => by cases e), hb3.size⟩
  · rcases hv3 with e | e
    · exact .inl e
    · exact .inr ⟨_, e, by omega, by simp [Value.ownBlock]⟩
  · rw [hw]; exact World.ownsRow_nil _ _ _ _
theorem out_app {wr : World} {base : Nat} {a : Option Addr} {n c : Nat} {l : List POut} (h1 : OutsOwn base wr (.slice a n c) l) (hl : l.length = n) (hn : n ≤ 1000) (hb : base ≤ wr.heap.size) (x : POut) (hx : OkOut x) :
    ∃ a' c' w', (Builtin.append_ #[24, 24] 24 #[.slice a n c, .slice (some ⟨wr.heap.size, 0, none⟩) 1 1]).run Try.prog (wr.alloc (.cells #[.int .i64 x.val, .string x.script] 59)) = .ok (.slice a' (n + 1) c') w' ∧
      Below base wr w' ∧ OutsOwn base w' (.slice a' (n + 1) c') (l ++ [x]) ∧ wr.heap.size ≤ w'.heap.size := by
  subst hl
  obtain ⟨i0, hi, hz0, hz1, hz2⟩ := info_parts info_out
  obtain ⟨a3, c3, w3, hrun, hown3, hb3, hg3, hv3⟩ := append_one (P := Try.prog) Try.underlying24 hi hz0 hz1 hz2 rfl h1.row #[.int .i64 x.val, .string x.script] rfl (by simp [Value.oneCell']) (by rw [maxLen_eq]; omega) (by omega) hb (ty := 24)
  refine ⟨a3, c3, w3, hrun, hb3, ⟨?_, fun y hy => ?_⟩, hb3.size⟩
  · have e : outsCells (l ++ [x]) = outsCells l ++ [.int .i64 x.val, .string x.script] := by simp [outsCells, outRow]
    rw [e, List.length_append]
    exact hown3
  · rcases List.mem_append.1 hy with hy | hy
    · exact h1.ok y hy
    · rw [List.mem_singleton.1 hy]; exact hx
/-- It returns this state and Ins of the call's own: these, if there is no error. -/
def RInsIs (r : Zst × List PIn) (w : World) (e : Ending) (w' : World) : Prop := ∃ v ps, e = .returned (.tuple #[zV r.1, v]) ∧ InsOwn w.heap.size w' v ps ∧ Below w.heap.size w w' ∧ (r.1.err = 0 → ps.map (·.1) = r.2) ∧ ps.length ≤ 256
def ROutsIs (r : Zst × List POut) (w : World) (e : Ending) (w' : World) : Prop := ∃ v xs, e = .returned (.tuple #[zV r.1, v]) ∧ OutsOwn w.heap.size w' v xs ∧ Below w.heap.size w w' ∧ (r.1.err = 0 → xs = r.2) ∧ xs.length ≤ 256

set_option maxRecDepth 100000 in
set_option maxHeartbeats 4000000 in
theorem rins_any (s : ByteArray) (z : Zst) (w : World) (hs : s.size ≤ 9000000000000000000) (hz : z.at_ ≤ s.size) :
    Calls Try.prog 48 #[.string s, zV z] w (RInsIs (insZ s.data.toList z) w) := by
  have hs0 : s.size ≤ 9223372036854775000 := by omega
  obtain ⟨z1, n, hz1⟩ : ∃ q1 q2, cntZ 1 256 6 s.data.toList z = (q1, q2) := ⟨_, _, rfl⟩
  have hr : insZ s.data.toList z = repZ inZ n s.data.toList z1 := by unfold insZ cntRep mapZ seqZ; rw [hz1]
  rw [hr]
  have k1 := (cntZ_psr 1 256 6 (by decide) (by decide)).le' (s := s) hz
  rw [hz1] at k1
  dsimp only at k1
  have hn := cntZ_le 1 256 6 s.data.toList z
  rw [hz1] at hn
  dsimp only at hn
  have q1 := fun y => rcount_any s z 1 256 6 y hs0 hz (by decide) (by decide)
  simp only [hz1, zV] at q1
  have Q1 := Lib.hid q1
  have HK := Lib.hid k1
  have HS := Lib.hid hs
  clear hr hz1 k1 q1 hz hs hs0
  unfold zV
  go_enter Try.func48, Try.ntmps48
  go_upto_region 1 with fail
  have h2 := two_new w (.cells #[.int .i64 z.at_, .int .i64 z.err] 76) (.cells #[.int .i64 0, .int .i64 0] 76)
  obtain ⟨B, hB⟩ : ∃ q, q = w.heap.size := ⟨_, rfl⟩
  rw [← hB] at h2 ⊢
  generalize (w.alloc (.cells #[.int .i64 z.at_, .int .i64 z.err] 76)).alloc (.cells #[.int .i64 0, .int .i64 0] 76) = wb at *
  have HI := Lib.hid (show RI w B z wb from ⟨by rw [← hB]; exact h2.2.2, h2.1, h2.2.1, hB⟩)
  clear h2 hB
  have b0 : wb.cell? ⟨B, 0, none⟩ = some (.int .i64 z.at_) := cell_at HI.out.box
  have b1 : wb.cell? ⟨B, 1, none⟩ = some (.int .i64 z.err) := cell_at HI.out.box
  go_wp2_with fail
  refine (Q1.out wb).mono ?_
  rintro e wq ⟨rfl, hb⟩
  have hst := HI.out.step hb z1
  obtain ⟨hs1, hs2, hs3, c0, c1, g0, g1⟩ := hst
  have HI := Lib.hid hs1
  clear hb hs1 hs2 hs3 b0 b1
  unfold zV
  go_upto_region 3 with fail
  generalize (wq.setCell ⟨B, 0, none⟩ (.int .i64 z1.at_)).setCell ⟨B, 1, none⟩ (.int .i64 z1.err) = wn at *
  clear c0 c1 g0 g1
  have b0 : wn.cell? ⟨B, 0, none⟩ = some (.int .i64 z1.at_) := cell_at HI.out.box
  have b1 : wn.cell? ⟨B, 1, none⟩ = some (.int .i64 z1.err) := cell_at HI.out.box
  go_wp2_with fail
  go_loopg [6, 8] n (fun g v vi wr => ∃ (k : Nat) (ps : List (PIn × Value)), g = n - k ∧ k ≤ n ∧ vi = .int .i64 k ∧ RI w B (repZ inZ k s.data.toList z1).1 wr ∧ InsOwn (B + 2) wr v ps ∧ ps.map (·.1) = (repZ inZ k s.data.toList z1).2 ∧ B + 2 ≤ wr.heap.size)
  case atStart => exact ⟨0, [], rfl, by omega, rfl, HI.out, insOwn_nil _ _, rfl, by have := (Array.getElem?_eq_some_iff.1 HI.out.res).1; omega⟩
  case round =>
    clear HI b0 b1 Q1
    rename World => wr
    obtain ⟨k, ps, hgk, hk, rfl, hi, hown, hps, hsz⟩ := hrel
    have HGK := Lib.hid hgk
    have HI := Lib.hid hi
    have HO := Lib.hid hown
    obtain ⟨a, c, e9, -, -⟩ := ownsRow_shape hown.row
    subst e9
    have hpl : ps.length = k := by
      have := repZ_len inZ s.data.toList z1 k
      rw [← hps, List.length_map] at this
      exact this
    rw [hpl] at HO
    have HPS := Lib.hid (And.intro hps hpl)
    have HSZ := Lib.hid hsz
    have kk := (inZ_psr.rep k).le' (s := s) HK.out
    obtain ⟨zk, hzk⟩ : ∃ q, q = (repZ inZ k s.data.toList z1).1 := ⟨_, rfl⟩
    rw [← hzk] at kk HI
    have HZK := Lib.hid hzk
    have b0 : wr.cell? ⟨B, 0, none⟩ = some (.int .i64 zk.at_) := cell_at HI.out.box
    have b1 : wr.cell? ⟨B, 1, none⟩ = some (.int .i64 zk.err) := cell_at HI.out.box
    clear hgk hi hown hps hzk hsz
    rw [hpl]
    by_cases hlt : k < n ∧ zk.err = 0
    · obtain ⟨hlt, hze⟩ := hlt
      obtain ⟨pk, ek⟩ := zk
      dsimp only at hze b0 b1 kk
      subst hze
      have kk : (⟨pk, 0⟩ : Zst).at_ ≤ s.size := kk
      obtain ⟨za, s1, hza⟩ : ∃ q1 q2, textZ 32 s.data.toList (⟨pk, 0⟩ : Zst) = (q1, q2) := ⟨_, _, rfl⟩
      obtain ⟨zb, n2, hzb⟩ : ∃ q1 q2, numZ 4 4294967295 3 s.data.toList za = (q1, q2) := ⟨_, _, rfl⟩
      obtain ⟨zc, n3, hzc⟩ : ∃ q1 q2, cntZ 0 0 4 s.data.toList zb = (q1, q2) := ⟨_, _, rfl⟩
      obtain ⟨zd, n4, hzd⟩ : ∃ q1 q2, numZ 4 4294967295 3 s.data.toList zc = (q1, q2) := ⟨_, _, rfl⟩
      have hin : inZ s.data.toList (⟨pk, 0⟩ : Zst) = (zd, ⟨s1, n2, n4, []⟩) := by unfold inZ mapZ seqZ; rw [hza]; dsimp only; rw [hzb]; dsimp only; rw [hzc]; dsimp only; rw [hzd]
      have hok := inZ_ok s.data.toList (⟨pk, 0⟩ : Zst)
      rw [hin] at hok
      dsimp only at hok
      have hst : repZ inZ (k + 1) s.data.toList z1 = (zd, ps.map (·.1) ++ [⟨s1, n2, n4, []⟩]) := by
        show ((inZ s.data.toList (repZ inZ k s.data.toList z1).1).1, (repZ inZ k s.data.toList z1).2 ++ [(inZ s.data.toList (repZ inZ k s.data.toList z1).1).2]) = _
        rw [← HZK.out, hin, ← HPS.out.1]
      have ka := (textZ_psr 32).le' (s := s) kk
      rw [hza] at ka
      have kb := (numZ_psr 4 4294967295 3 (by decide)).le' (s := s) ka
      rw [hzb] at kb
      have kc := (cntZ_psr 0 0 4 (by decide) (by decide)).le' (s := s) kb
      rw [hzc] at kc
      dsimp only at ka kb kc
      have hs0 : s.size ≤ 9223372036854775000 := by have := HS.out; omega
      have qa := fun y => rtext_any s (⟨pk, 0⟩ : Zst) 32 y hs0 kk (by decide) HS.out
      have qb := fun y => rnumber_any s za 4 4294967295 3 y (.inr (.inr (.inl rfl))) hs0 ka (by decide)
      have qc := fun y => rcount_any s zb 0 0 4 y hs0 kb (by decide) (by decide)
      have qd := fun y => rnumber_any s zc 4 4294967295 3 y (.inr (.inr (.inl rfl))) hs0 kc (by decide)
      have hn2 := numZ_le 4 4294967295 3 s.data.toList za
      rw [hzb] at hn2
      have hn4 := numZ_le 4 4294967295 3 s.data.toList zc
      rw [hzd] at hn4
      dsimp only at hn2 hn4
      simp only [hza, zV] at qa
      simp only [hzb, zV] at qb
      simp only [hzc, zV] at qc
      simp only [hzd, zV] at qd
      have QA := Lib.hid qa
      have QB := Lib.hid qb
      have QC := Lib.hid qc
      have QD := Lib.hid qd
      have HST := Lib.hid hst
      have HOK := Lib.hid hok
      have hn2I : (n2 : Int) < 4294967296 := by omega
      have hn4I : (n4 : Int) < 4294967296 := by omega
      clear hza hzb hzc hzd hin hok hst ka kb kc hs0 qa qb qc qd hn2 hn4 kk hpl
      go_wp2_with fail
      refine (QA.out wr).mono ?_
      rintro e w1 ⟨rfl, hb⟩
      have hst := HI.out.step hb za
      obtain ⟨hs1, hs2, hs3, c0, c1, g0, g1⟩ := hst
      have HO := Lib.hid (HO.out.kept fun k hk => hs2 k (by have := HI.out.is; have := (HO.out.lt hk).2; omega) (by have := (HO.out.lt hk).1; omega))
      have HI := Lib.hid hs1
      have HSZ := Lib.hid (Nat.le_trans HSZ.out hs3)
      clear hb hs1 hs2 hs3 b0 b1
      unfold zV
      go_upto_region 9 with fail
      generalize (w1.setCell ⟨B, 0, none⟩ (.int .i64 za.at_)).setCell ⟨B, 1, none⟩ (.int .i64 za.err) = v1 at *
      clear c0 c1 g0 g1
      have b0 : v1.cell? ⟨B, 0, none⟩ = some (.int .i64 za.at_) := cell_at HI.out.box
      have b1 : v1.cell? ⟨B, 1, none⟩ = some (.int .i64 za.err) := cell_at HI.out.box
      go_wp2_with fail
      refine (QB.out v1).mono ?_
      rintro e w2 ⟨rfl, hb⟩
      have hst := HI.out.step hb zb
      obtain ⟨hs1, hs2, hs3, c0, c1, g0, g1⟩ := hst
      have HO := Lib.hid (HO.out.kept fun k hk => hs2 k (by have := HI.out.is; have := (HO.out.lt hk).2; omega) (by have := (HO.out.lt hk).1; omega))
      have HI := Lib.hid hs1
      have HSZ := Lib.hid (Nat.le_trans HSZ.out hs3)
      clear hb hs1 hs2 hs3 b0 b1
      unfold zV
      go_upto_region 10 with fail
      generalize (w2.setCell ⟨B, 0, none⟩ (.int .i64 zb.at_)).setCell ⟨B, 1, none⟩ (.int .i64 zb.err) = v2 at *
      clear c0 c1 g0 g1
      have b0 : v2.cell? ⟨B, 0, none⟩ = some (.int .i64 zb.at_) := cell_at HI.out.box
      have b1 : v2.cell? ⟨B, 1, none⟩ = some (.int .i64 zb.err) := cell_at HI.out.box
      go_wp2_with fail
      refine (QC.out v2).mono ?_
      rintro e w3 ⟨rfl, hb⟩
      have hst := HI.out.step hb zc
      obtain ⟨hs1, hs2, hs3, c0, c1, g0, g1⟩ := hst
      have HO := Lib.hid (HO.out.kept fun k hk => hs2 k (by have := HI.out.is; have := (HO.out.lt hk).2; omega) (by have := (HO.out.lt hk).1; omega))
      have HI := Lib.hid hs1
      have HSZ := Lib.hid (Nat.le_trans HSZ.out hs3)
      clear hb hs1 hs2 hs3 b0 b1
      unfold zV
      go_upto_region 11 with fail
      generalize (w3.setCell ⟨B, 0, none⟩ (.int .i64 zc.at_)).setCell ⟨B, 1, none⟩ (.int .i64 zc.err) = v3 at *
      clear c0 c1 g0 g1
      have b0 : v3.cell? ⟨B, 0, none⟩ = some (.int .i64 zc.at_) := cell_at HI.out.box
      have b1 : v3.cell? ⟨B, 1, none⟩ = some (.int .i64 zc.err) := cell_at HI.out.box
      go_wp2_with fail
      refine (QD.out v3).mono ?_
      rintro e w4 ⟨rfl, hb⟩
      have hst := HI.out.step hb zd
      obtain ⟨hs1, hs2, hs3, c0, c1, g0, g1⟩ := hst
      have HO := Lib.hid (HO.out.kept fun k hk => hs2 k (by have := HI.out.is; have := (HO.out.lt hk).2; omega) (by have := (HO.out.lt hk).1; omega))
      have HI := Lib.hid hs1
      have HSZ := Lib.hid (Nat.le_trans HSZ.out hs3)
      clear hb hs1 hs2 hs3 b0 b1
      unfold zV
      go_upto_region 12 with fail
      generalize (w4.setCell ⟨B, 0, none⟩ (.int .i64 zd.at_)).setCell ⟨B, 1, none⟩ (.int .i64 zd.err) = v4 at *
      clear c0 c1 g0 g1
      have b0 : v4.cell? ⟨B, 0, none⟩ = some (.int .i64 zd.at_) := cell_at HI.out.box
      have b1 : v4.cell? ⟨B, 1, none⟩ = some (.int .i64 zd.err) := cell_at HI.out.box
      obtain ⟨a2, c2, w5, hrun, hb5, hown5, hsz5⟩ := in_app HO.out HPS.out.2 (by omega) HSZ.out ⟨s1, n2, n4, []⟩ rfl HOK.out.1
      have HI := Lib.hid (HI.out.below hb5 (Nat.le_refl _))
      have HO := Lib.hid hown5
      have HR := Lib.hid hrun
      have HSZ := Lib.hid (Nat.le_trans HSZ.out hsz5)
      clear hrun hb5 hown5 hsz5
      go_wp2_with (at_builtin; refine wpList_append_run rfl (.tmp 52) (.tmp 60) 23 23 rfl rfl rfl HR.out ?_)
      go_roundg (n - (k + 1))
      case measure => have := HGK.out; omega
      case rel => exact ⟨k + 1, _, rfl, by omega, by go_num, by rw [HST.out]; exact HI.out, HO.out, by rw [HST.out]; simp, HSZ.out⟩
    · have hfin : (repZ inZ n s.data.toList z1).1 = zk ∧ (zk.err = 0 → ps.map (·.1) = (repZ inZ n s.data.toList z1).2) := by
        by_cases hze : zk.err = 0
        · obtain rfl : k = n := by omega
          exact ⟨HZK.out.symm, fun _ => HPS.out.1⟩
        · have := repZ_stay inZ_psr s.data.toList z1 k (by rw [← HZK.out]; exact hze) (n - k)
          rw [show k + (n - k) = n by omega] at this
          exact ⟨this.trans HZK.out.symm, fun h => absurd h hze⟩
      have HFN := Lib.hid hfin
      have hpl2 : ps.length ≤ 256 := by omega
      have HPL := Lib.hid hpl2
      clear hfin hpl2 hpl kk
      have x0 : wr.cell? ⟨B + 1, 0, none⟩ = some (.int .i64 0) := cell_at HI.out.res
      have x1 : wr.cell? ⟨B + 1, 1, none⟩ = some (.int .i64 0) := cell_at HI.out.res
      have fx0 : wr.frozen? ⟨B + 1, 0, none⟩ = false := free_at HI.out.res
      have fx1 : wr.frozen? ⟨B + 1, 1, none⟩ = false := free_at HI.out.res
      have b0 : wr.cell? ⟨B, 0, none⟩ = some (.int .i64 zk.at_) := cell_at HI.out.box
      have b1 : wr.cell? ⟨B, 1, none⟩ = some (.int .i64 zk.err) := cell_at HI.out.box
      have HBB := Lib.hid ((HI.out.bel.setCell (p := ⟨B + 1, 0, none⟩) (by have := HI.out.is; dsimp only; omega) (.int .i64 zk.at_)).setCell (p := ⟨B + 1, 1, none⟩) (by have := HI.out.is; dsimp only; omega) (.int .i64 zk.err))
      have HOO := Lib.hid ((HO.out.kept3 (w' := (wr.setCell ⟨B + 1, 0, none⟩ (.int .i64 zk.at_)).setCell ⟨B + 1, 1, none⟩ (.int .i64 zk.err)) fun b hb1 hb2 => by rw [Below.heap_setCell _ _ _ _ (by dsimp only; omega), Below.heap_setCell _ _ _ _ (by dsimp only; omega)]).base (base' := w.heap.size) (by have := HI.out.is; omega))
      by_cases hk2 : k < n
      · have hze : zk.err ≠ 0 := fun h => hlt ⟨hk2, h⟩
        have hz1 : (zk.err == 0) = false := by simpa using hze
        clear hlt
        go_wp2_with fail
        refine bodyPost_ret (v := .tuple #[.agg #[.int .i64 zk.at_, .int .i64 zk.err], .slice a k c]) (by simp [results, Try.results48, go_sem, x0, x1]) rfl ⟨_, ps, by rw [HFN.out.1]; rfl, HOO.out, HBB.out, fun h => HFN.out.2 (HFN.out.1 ▸ h), HPL.out⟩
      · clear hlt
        go_wp2_with fail
        refine bodyPost_ret (v := .tuple #[.agg #[.int .i64 zk.at_, .int .i64 zk.err], .slice a k c]) (by simp [results, Try.results48, go_sem, x0, x1]) rfl ⟨_, ps, by rw [HFN.out.1]; rfl, HOO.out, HBB.out, fun h => HFN.out.2 (HFN.out.1 ▸ h), HPL.out⟩

set_option maxRecDepth 100000 in
set_option maxHeartbeats 4000000 in
theorem routs_any (s : ByteArray) (z : Zst) (w : World) (hs : s.size ≤ 9000000000000000000) (hz : z.at_ ≤ s.size) :
    Calls Try.prog 49 #[.string s, zV z] w (ROutsIs (outsZ s.data.toList z) w) := by
  have hs0 : s.size ≤ 9223372036854775000 := by omega
  obtain ⟨z1, n, hz1⟩ : ∃ q1 q2, cntZ 1 256 6 s.data.toList z = (q1, q2) := ⟨_, _, rfl⟩
  have hr : outsZ s.data.toList z = repZ outZ n s.data.toList z1 := by unfold outsZ cntRep mapZ seqZ; rw [hz1]
  rw [hr]
  have k1 := (cntZ_psr 1 256 6 (by decide) (by decide)).le' (s := s) hz
  rw [hz1] at k1
  dsimp only at k1
  have hn := cntZ_le 1 256 6 s.data.toList z
  rw [hz1] at hn
  dsimp only at hn
  have q1 := fun y => rcount_any s z 1 256 6 y hs0 hz (by decide) (by decide)
  simp only [hz1, zV] at q1
  have Q1 := Lib.hid q1
  have HK := Lib.hid k1
  have HS := Lib.hid hs
  clear hr hz1 k1 q1 hz hs hs0
  unfold zV
  go_enter Try.func49, Try.ntmps49
  go_upto_region 1 with fail
  have h2 := two_new w (.cells #[.int .i64 z.at_, .int .i64 z.err] 76) (.cells #[.int .i64 0, .int .i64 0] 76)
  obtain ⟨B, hB⟩ : ∃ q, q = w.heap.size := ⟨_, rfl⟩
  rw [← hB] at h2 ⊢
  generalize (w.alloc (.cells #[.int .i64 z.at_, .int .i64 z.err] 76)).alloc (.cells #[.int .i64 0, .int .i64 0] 76) = wb at *
  have HI := Lib.hid (show RI w B z wb from ⟨by rw [← hB]; exact h2.2.2, h2.1, h2.2.1, hB⟩)
  clear h2 hB
  have b0 : wb.cell? ⟨B, 0, none⟩ = some (.int .i64 z.at_) := cell_at HI.out.box
  have b1 : wb.cell? ⟨B, 1, none⟩ = some (.int .i64 z.err) := cell_at HI.out.box
  go_wp2_with fail
  refine (Q1.out wb).mono ?_
  rintro e wq ⟨rfl, hb⟩
  have hst := HI.out.step hb z1
  obtain ⟨hs1, hs2, hs3, c0, c1, g0, g1⟩ := hst
  have HI := Lib.hid hs1
  clear hb hs1 hs2 hs3 b0 b1
  unfold zV
  go_upto_region 3 with fail
  generalize (wq.setCell ⟨B, 0, none⟩ (.int .i64 z1.at_)).setCell ⟨B, 1, none⟩ (.int .i64 z1.err) = wn at *
  clear c0 c1 g0 g1
  have b0 : wn.cell? ⟨B, 0, none⟩ = some (.int .i64 z1.at_) := cell_at HI.out.box
  have b1 : wn.cell? ⟨B, 1, none⟩ = some (.int .i64 z1.err) := cell_at HI.out.box
  go_wp2_with fail
  go_loopg [6, 8] n (fun g v vi wr => ∃ (k : Nat) (xs : List POut), g = n - k ∧ k ≤ n ∧ vi = .int .i64 k ∧ RI w B (repZ outZ k s.data.toList z1).1 wr ∧ OutsOwn (B + 2) wr v xs ∧ xs = (repZ outZ k s.data.toList z1).2 ∧ B + 2 ≤ wr.heap.size)
  case atStart => exact ⟨0, [], rfl, by omega, rfl, HI.out, outsOwn_nil _ _, rfl, by have := (Array.getElem?_eq_some_iff.1 HI.out.res).1; omega⟩
  case round =>
    clear HI b0 b1 Q1
    rename World => wr
    obtain ⟨k, xs, hgk, hk, rfl, hi, hown, hps, hsz⟩ := hrel
    have HGK := Lib.hid hgk
    have HI := Lib.hid hi
    have HO := Lib.hid hown
    obtain ⟨a, c, e9, -, -⟩ := ownsRow_shape hown.row
    subst e9
    have hpl : xs.length = k := by rw [hps]; exact repZ_len outZ s.data.toList z1 k
    rw [hpl] at HO
    have HPS := Lib.hid (And.intro hps hpl)
    have HSZ := Lib.hid hsz
    have kk := (outZ_psr.rep k).le' (s := s) HK.out
    obtain ⟨zk, hzk⟩ : ∃ q, q = (repZ outZ k s.data.toList z1).1 := ⟨_, rfl⟩
    rw [← hzk] at kk HI
    have HZK := Lib.hid hzk
    have b0 : wr.cell? ⟨B, 0, none⟩ = some (.int .i64 zk.at_) := cell_at HI.out.box
    have b1 : wr.cell? ⟨B, 1, none⟩ = some (.int .i64 zk.err) := cell_at HI.out.box
    clear hgk hi hown hps hzk hsz
    rw [hpl]
    by_cases hlt : k < n ∧ zk.err = 0
    · obtain ⟨hlt, hze⟩ := hlt
      obtain ⟨pk, ek⟩ := zk
      dsimp only at hze b0 b1 kk
      subst hze
      have kk : (⟨pk, 0⟩ : Zst).at_ ≤ s.size := kk
      obtain ⟨za, n1, hza⟩ : ∃ q1 q2, numZ 8 2100000000000000 3 s.data.toList (⟨pk, 0⟩ : Zst) = (q1, q2) := ⟨_, _, rfl⟩
      obtain ⟨zb, n2, hzb⟩ : ∃ q1 q2, cntZ 0 40 20 s.data.toList za = (q1, q2) := ⟨_, _, rfl⟩
      obtain ⟨zc, s3, hzc⟩ : ∃ q1 q2, textZ n2 s.data.toList zb = (q1, q2) := ⟨_, _, rfl⟩
      have hin : outZ s.data.toList (⟨pk, 0⟩ : Zst) = (zc, ⟨(n1 : Int), s3⟩) := by unfold outZ cntText mapZ seqZ; rw [hza]; dsimp only; rw [hzb]; dsimp only; rw [hzc]
      have hok := outZ_ok s.data.toList (⟨pk, 0⟩ : Zst)
      rw [hin] at hok
      dsimp only at hok
      have hst : repZ outZ (k + 1) s.data.toList z1 = (zc, xs ++ [⟨(n1 : Int), s3⟩]) := by
        show ((outZ s.data.toList (repZ outZ k s.data.toList z1).1).1, (repZ outZ k s.data.toList z1).2 ++ [(outZ s.data.toList (repZ outZ k s.data.toList z1).1).2]) = _
        rw [← HZK.out, hin, ← HPS.out.1]
      have ka := (numZ_psr 8 2100000000000000 3 (by decide)).le' (s := s) kk
      rw [hza] at ka
      have kb := (cntZ_psr 0 40 20 (by decide) (by decide)).le' (s := s) ka
      rw [hzb] at kb
      dsimp only at ka kb
      have hn1 := numZ_le 8 2100000000000000 3 s.data.toList (⟨pk, 0⟩ : Zst)
      rw [hza] at hn1
      have hn2 := cntZ_le 0 40 20 s.data.toList za
      rw [hzb] at hn2
      dsimp only at hn1 hn2
      have hs0 : s.size ≤ 9223372036854775000 := by have := HS.out; omega
      have qa := fun y => rnumber_any s (⟨pk, 0⟩ : Zst) 8 2100000000000000 3 y (.inr (.inr (.inr rfl))) hs0 kk (by decide)
      have qb := fun y => rcount_any s za 0 40 20 y hs0 ka (by decide) (by decide)
      have qc := fun y => rtext_any s zb n2 y hs0 kb (by omega) HS.out
      simp only [hza, zV] at qa
      simp only [hzb, zV] at qb
      simp only [hzc, zV] at qc
      have QA := Lib.hid qa
      have QB := Lib.hid qb
      have QC := Lib.hid qc
      have HST := Lib.hid hst
      have HOK := Lib.hid hok
      have hn1I : (n1 : Int) ≤ 2100000000000000 := by omega
      clear hza hzb hzc hin hok hst ka kb hs0 qa qb qc hn1 hn2 kk hpl
      go_wp2_with fail
      refine (QA.out wr).mono ?_
      rintro e w1 ⟨rfl, hb⟩
      have hst := HI.out.step hb za
      obtain ⟨hs1, hs2, hs3, c0, c1, g0, g1⟩ := hst
      have HO := Lib.hid (HO.out.kept2 fun k hk hk2 => hs2 k hk2 (by omega))
      have HI := Lib.hid hs1
      have HSZ := Lib.hid (Nat.le_trans HSZ.out hs3)
      clear hb hs1 hs2 hs3 b0 b1
      unfold zV
      go_upto_region 10 with fail
      generalize (w1.setCell ⟨B, 0, none⟩ (.int .i64 za.at_)).setCell ⟨B, 1, none⟩ (.int .i64 za.err) = v1 at *
      clear c0 c1 g0 g1
      have b0 : v1.cell? ⟨B, 0, none⟩ = some (.int .i64 za.at_) := cell_at HI.out.box
      have b1 : v1.cell? ⟨B, 1, none⟩ = some (.int .i64 za.err) := cell_at HI.out.box
      go_wp2_with fail
      refine (QB.out v1).mono ?_
      rintro e w2 ⟨rfl, hb⟩
      have hst := HI.out.step hb zb
      obtain ⟨hs1, hs2, hs3, c0, c1, g0, g1⟩ := hst
      have HO := Lib.hid (HO.out.kept2 fun k hk hk2 => hs2 k hk2 (by omega))
      have HI := Lib.hid hs1
      have HSZ := Lib.hid (Nat.le_trans HSZ.out hs3)
      clear hb hs1 hs2 hs3 b0 b1
      unfold zV
      go_upto_region 11 with fail
      generalize (w2.setCell ⟨B, 0, none⟩ (.int .i64 zb.at_)).setCell ⟨B, 1, none⟩ (.int .i64 zb.err) = v2 at *
      clear c0 c1 g0 g1
      have b0 : v2.cell? ⟨B, 0, none⟩ = some (.int .i64 zb.at_) := cell_at HI.out.box
      have b1 : v2.cell? ⟨B, 1, none⟩ = some (.int .i64 zb.err) := cell_at HI.out.box
      go_wp2_with fail
      refine (QC.out v2).mono ?_
      rintro e w3 ⟨rfl, hb⟩
      have hst := HI.out.step hb zc
      obtain ⟨hs1, hs2, hs3, c0, c1, g0, g1⟩ := hst
      have HO := Lib.hid (HO.out.kept2 fun k hk hk2 => hs2 k hk2 (by omega))
      have HI := Lib.hid hs1
      have HSZ := Lib.hid (Nat.le_trans HSZ.out hs3)
      clear hb hs1 hs2 hs3 b0 b1
      unfold zV
      go_upto_region 12 with fail
      generalize (w3.setCell ⟨B, 0, none⟩ (.int .i64 zc.at_)).setCell ⟨B, 1, none⟩ (.int .i64 zc.err) = v3 at *
      clear c0 c1 g0 g1
      have b0 : v3.cell? ⟨B, 0, none⟩ = some (.int .i64 zc.at_) := cell_at HI.out.box
      have b1 : v3.cell? ⟨B, 1, none⟩ = some (.int .i64 zc.err) := cell_at HI.out.box
      obtain ⟨a2, c2, w5, hrun, hb5, hown5, hsz5⟩ := out_app HO.out HPS.out.2 (by omega) HSZ.out ⟨(n1 : Int), s3⟩ HOK.out
      have HI := Lib.hid (HI.out.below hb5 (Nat.le_refl _))
      have HO := Lib.hid hown5
      have HR := Lib.hid hrun
      have HSZ := Lib.hid (Nat.le_trans HSZ.out hsz5)
      clear hrun hb5 hown5 hsz5
      go_wp2_with (at_builtin; refine wpList_append_run rfl (.tmp 47) (.tmp 52) 24 24 rfl rfl rfl HR.out ?_)
      go_roundg (n - (k + 1))
      case measure => have := HGK.out; omega
      case rel => exact ⟨k + 1, _, rfl, by omega, by go_num, by rw [HST.out]; exact HI.out, HO.out, by rw [HST.out], HSZ.out⟩
    · have hfin : (repZ outZ n s.data.toList z1).1 = zk ∧ (zk.err = 0 → xs = (repZ outZ n s.data.toList z1).2) := by
        by_cases hze : zk.err = 0
        · obtain rfl : k = n := by omega
          exact ⟨HZK.out.symm, fun _ => HPS.out.1⟩
        · have := repZ_stay outZ_psr s.data.toList z1 k (by rw [← HZK.out]; exact hze) (n - k)
          rw [show k + (n - k) = n by omega] at this
          exact ⟨this.trans HZK.out.symm, fun h => absurd h hze⟩
      have HFN := Lib.hid hfin
      have hpl2 : xs.length ≤ 256 := by omega
      have HPL := Lib.hid hpl2
      clear hfin hpl2 hpl kk
      have x0 : wr.cell? ⟨B + 1, 0, none⟩ = some (.int .i64 0) := cell_at HI.out.res
      have x1 : wr.cell? ⟨B + 1, 1, none⟩ = some (.int .i64 0) := cell_at HI.out.res
      have fx0 : wr.frozen? ⟨B + 1, 0, none⟩ = false := free_at HI.out.res
      have fx1 : wr.frozen? ⟨B + 1, 1, none⟩ = false := free_at HI.out.res
      have b0 : wr.cell? ⟨B, 0, none⟩ = some (.int .i64 zk.at_) := cell_at HI.out.box
      have b1 : wr.cell? ⟨B, 1, none⟩ = some (.int .i64 zk.err) := cell_at HI.out.box
      have HBB := Lib.hid ((HI.out.bel.setCell (p := ⟨B + 1, 0, none⟩) (by have := HI.out.is; dsimp only; omega) (.int .i64 zk.at_)).setCell (p := ⟨B + 1, 1, none⟩) (by have := HI.out.is; dsimp only; omega) (.int .i64 zk.err))
      have HOO := Lib.hid ((HO.out.kept2 (w' := (wr.setCell ⟨B + 1, 0, none⟩ (.int .i64 zk.at_)).setCell ⟨B + 1, 1, none⟩ (.int .i64 zk.err)) fun b hb1 hb2 => by rw [Below.heap_setCell _ _ _ _ (by dsimp only; omega), Below.heap_setCell _ _ _ _ (by dsimp only; omega)]).base (base' := w.heap.size) (by have := HI.out.is; omega))
      by_cases hk2 : k < n
      · have hze : zk.err ≠ 0 := fun h => hlt ⟨hk2, h⟩
        have hz1 : (zk.err == 0) = false := by simpa using hze
        clear hlt
        go_wp2_with fail
        refine bodyPost_ret (v := .tuple #[.agg #[.int .i64 zk.at_, .int .i64 zk.err], .slice a k c]) (by simp [results, Try.results49, go_sem, x0, x1]) rfl ⟨_, xs, by rw [HFN.out.1]; rfl, HOO.out, HBB.out, fun h => HFN.out.2 (HFN.out.1 ▸ h), HPL.out⟩
      · clear hlt
        go_wp2_with fail
        refine bodyPost_ret (v := .tuple #[.agg #[.int .i64 zk.at_, .int .i64 zk.err], .slice a k c]) (by simp [results, Try.results49, go_sem, x0, x1]) rfl ⟨_, xs, by rw [HFN.out.1]; rfl, HOO.out, HBB.out, fun h => HFN.out.2 (HFN.out.1 ▸ h), HPL.out⟩
end Go.Proofs.Ytmcknjldimnaoaa
