/-
  RecBack, part 6: the texts Ef, Sha2, Sha3, Sha4, Bld, ShaB, Wx, Wb, one after another. Conditions: none beyond those named at each.
-/
import Derived.Test.YtaooibocknemkaaQ5RecBack
import Derived.Test.YtaooibocknemkaaQ1RecBack
import Derived.Laws.Cells
import Derived.Laws.CopyRow
import Derived.Deep.CutBlock
import Derived.Deep.WholeRow
import Derived.Laws.IdiomStrings
import Derived.Laws.OwnMore
import Derived.Test.YtaooibocknemkaaQ4RecBack
import Derived.Test.YtaooibocknemkaaShelf
import Derived.Lib.Builder
section
/-
  A record in memory; rec.Equal. Conditions: the records lie in memory.
-/
namespace Go.Proofs.Ytaooibocknemkaa
open Go.RowKit Go.BigFrame
set_option linter.unusedVariables false
set_option linter.unusedSimpArgs false

def RecAt (w : World) (v : Value) (r : PRec) : Prop := ∃ va vb, v = .agg #[.int .i64 r.kind, .int .i64 r.num, .int .u32 r.tx.ver, va, vb, .int .u32 r.tx.lock, .int .i64 r.index, .string r.id, .int .u32 r.idx, .int .i64 r.val, .int .i64 r.br, .int .u16 r.tag, .int .u16 r.delay, .int .u32 r.height, .int .i64 r.dead, .int .i64 r.budget, .int .i64 r.start, .int .i64 r.fee] ∧ SlAt rpIn w va r.tx.ins ∧ SlAt rpOut w vb r.tx.outs ∧ r.Ok
theorem RecAt.below {w w' : World} {v : Value} {r : PRec} (h : RecAt w v r) (hb : Below w.heap.size w w') : RecAt w' v r := by
  obtain ⟨va, vb, e, h1, h2, h3⟩ := h
  exact ⟨va, vb, e, h1.below hb, h2.below hb, h3⟩
structure PCm where
  id : ByteArray
  idx : Nat
  val : Int
  br : Int
  tag : Nat
  delay : Nat
  height : Nat
  dead : Int
def PRec.cl (r : PRec) : PCm := ⟨r.id, r.idx, r.val, r.br, r.tag, r.delay, r.height, r.dead⟩
noncomputable def sameC (a b : PCm) : Bool := @decide (a = b) (Classical.propDecidable _)
theorem sameC_iff {a b : PCm} : sameC a b = true ↔ a = b := @decide_eq_true_iff _ (Classical.propDecidable _)
theorem guardCl : Try.prog.eqGuardType Try.prog.depth 36 = false := by kernel_rfl
set_option maxRecDepth 100000 in
theorem eqPt_d (d : Nat) (a1 b1 : ByteArray) (a2 b2 : Nat) (w : World) : (Op.equalIn (d + 1 + 1) 34 (.agg #[.string a1, .int .u32 a2]) (.agg #[.string b1, .int .u32 b2])).run Try.prog w = .ok ((a1.toList == b1.toList) && ((a2 : Int) == (b2 : Int))) w := by
  have hS : Try.prog.underlying 34 = some (.struct (Try.prog.fieldsOf 34)) := by kernel_rfl
  have hp : Try.prog.stoodInHeld 34 = false := by kernel_rfl
  rw [run_equalIn_agg w (d + 1) 34 _ _ hS hp]
  simp only [Program.fieldsOf, Try.underlying34]
  have u1 := Try.underlying9
  have u2 := Try.underlying23
  clear hS hp
  go_simp
  by_cases h1 : a1.toList = b1.toList <;> by_cases h2 : (a2 : Int) = (b2 : Int) <;> simp [h1, h2]
set_option maxRecDepth 100000 in
theorem eqBr_d (d a1 b1 a2 b2 a3 b3 : Nat) (w : World) : (Op.equalIn (d + 1 + 1) 32 (.agg #[.int .u16 a1, .int .u16 a2, .int .u32 a3]) (.agg #[.int .u16 b1, .int .u16 b2, .int .u32 b3])).run Try.prog w = .ok ((((a1 : Int) == (b1 : Int)) && ((a2 : Int) == (b2 : Int))) && ((a3 : Int) == (b3 : Int))) w := by
  have hS : Try.prog.underlying 32 = some (.struct (Try.prog.fieldsOf 32)) := by kernel_rfl
  have hp : Try.prog.stoodInHeld 32 = false := by kernel_rfl
  rw [run_equalIn_agg w (d + 1) 32 _ _ hS hp]
  simp only [Program.fieldsOf, Try.underlying32]
  have u1 := Try.underlying30
  have u2 := Try.underlying23
  clear hS hp
  go_simp
  by_cases h1 : (a1 : Int) = (b1 : Int) <;> by_cases h2 : (a2 : Int) = (b2 : Int) <;> by_cases h3 : (a3 : Int) = (b3 : Int) <;> simp [h1, h2, h3]
theorem sameC_bits (r q : PCm) : sameC r q = (((r.id.toList == q.id.toList) && ((r.idx : Int) == (q.idx : Int))) && ((r.val == q.val) && ((r.br == q.br) && (((((r.tag : Int) == (q.tag : Int)) && ((r.delay : Int) == (q.delay : Int))) && ((r.height : Int) == (q.height : Int))) && (r.dead == q.dead))))) := by
  obtain ⟨a1, a2, a3, a4, a5, a6, a7, a8⟩ := r
  obtain ⟨b1, b2, b3, b4, b5, b6, b7, b8⟩ := q
  rw [Bool.eq_iff_iff, sameC_iff]
  dsimp only
  simp only [Bool.and_eq_true, beq_iff_eq, ByteArray.toList_eq, PCm.mk.injEq]
  constructor
  · rintro ⟨rfl, rfl, rfl, rfl, rfl, rfl, rfl, rfl⟩
    exact ⟨⟨rfl, rfl⟩, rfl, rfl, ⟨⟨rfl, rfl⟩, rfl⟩, rfl⟩
  · rintro ⟨⟨h1, h2⟩, h3, h4, ⟨⟨h5, h6⟩, h7⟩, h8⟩
    exact ⟨by cases a1; cases b1; simp at h1; simp [h1], by omega, h3, h4, by omega, by omega, by omega, h8⟩
set_option maxRecDepth 100000 in
set_option maxHeartbeats 1000000 in
theorem eqIn_cl (r q : PCm) (w : World) : (Op.equalIn 10000 36 (.agg #[.string r.id, .int .u32 r.idx, .int .i64 r.val, .int .i64 r.br, .int .u16 r.tag, .int .u16 r.delay, .int .u32 r.height, .int .i64 r.dead]) (.agg #[.string q.id, .int .u32 q.idx, .int .i64 q.val, .int .i64 q.br, .int .u16 q.tag, .int .u16 q.delay, .int .u32 q.height, .int .i64 q.dead])).run Try.prog w = .ok (sameC r q) w := by
  have hS : Try.prog.underlying 36 = some (.struct (Try.prog.fieldsOf 36)) := by kernel_rfl
  have hp : Try.prog.stoodInHeld 36 = false := by kernel_rfl
  have hP := fun w => eqPt_d 9997 r.id q.id r.idx q.idx w
  have hB := fun w => eqBr_d 9997 r.tag q.tag r.delay q.delay r.height q.height w
  rw [sameC_bits]
  obtain ⟨a1, a2, a3, a4, a5, a6, a7, a8⟩ := r
  obtain ⟨b1, b2, b3, b4, b5, b6, b7, b8⟩ := q
  dsimp only at hP hB ⊢
  rw [show (10000 : Nat) = 9999 + 1 from rfl, run_equalIn_agg w 9999 36 _ _ hS hp]
  simp only [Program.fieldsOf, Try.underlying36]
  have u3 := Try.underlying3
  clear hS hp
  rw [show (9997 + 1 + 1 : Nat) = 9999 from rfl] at hP hB
  go_simp
  by_cases h1 : a1.toList = b1.toList
  rotate_left
  · simp [h1]
  by_cases h2 : (a2 : Int) = (b2 : Int)
  rotate_left
  · simp [h2]
  by_cases h3 : a3 = b3
  rotate_left
  · simp [h3]
  by_cases h4 : a4 = b4
  rotate_left
  · simp [h4]
  by_cases h5 : (a5 : Int) = (b5 : Int)
  rotate_left
  · simp [h5]
  by_cases h6 : (a6 : Int) = (b6 : Int)
  rotate_left
  · simp [h6]
  by_cases h7 : (a7 : Int) = (b7 : Int)
  rotate_left
  · simp [h7]
  by_cases h8 : a8 = b8 <;> simp [h1, h2, h3, h4, h5, h6, h7, h8]
theorem sameR_bits (r q : PRec) : sameR r q = ((((((((r.kind == q.kind) && (r.num == q.num)) && sameTx r.tx q.tx) && (r.index == q.index)) && sameC r.cl q.cl) && (r.budget == q.budget)) && (r.start == q.start)) && (r.fee == q.fee)) := by
  rw [Bool.eq_iff_iff, sameR_iff]
  simp only [Bool.and_eq_true, beq_iff_eq, sameC_iff]
  constructor
  · rintro rfl
    exact ⟨⟨⟨⟨⟨⟨⟨rfl, rfl⟩, same_yes rfl⟩, rfl⟩, rfl⟩, rfl⟩, rfl⟩, rfl⟩
  · rintro ⟨⟨⟨⟨⟨⟨⟨h1, h2⟩, h3⟩, h4⟩, h5⟩, h6⟩, h7⟩, h8⟩
    have h3' : r.tx = q.tx := by
      by_cases e : r.tx = q.tx
      · exact e
      · rw [same_no e] at h3; cases h3
    obtain ⟨r1, r2, r3, r4, r5, r6, r7, r8, r9, r10, r11, r12, r13, r14, r15⟩ := r
    obtain ⟨q1, q2, q3, q4, q5, q6, q7, q8, q9, q10, q11, q12, q13, q14, q15⟩ := q
    simp only [PRec.cl, PCm.mk.injEq] at h5
    obtain ⟨g1, g2, g3, g4, g5, g6, g7, g8⟩ := h5
    dsimp only at h1 h2 h3' h4 h6 h7 h8
    subst h1 h2 h3' h4 h6 h7 h8 g1 g2 g3 g4 g5 g6 g7 g8
    rfl
theorem rec_tx {w : World} {r : PRec} {va vb : Value} (h1 : SlAt rpIn w va r.tx.ins) (h2 : SlAt rpOut w vb r.tx.outs) (h : r.Ok) : TxAt w (.agg #[.int .u32 r.tx.ver, va, vb, .int .u32 r.tx.lock]) r.tx := ⟨va, vb, rfl, h1, h2, h.ver, h.lock⟩
set_option maxRecDepth 100000 in
set_option maxHeartbeats 4000000 in
theorem recequal_any (v1 v2 : Value) (r q : PRec) (w : World) (h1 : RecAt w v1 r) (h2 : RecAt w v2 q) : Calls Try.prog 13 #[v1, v2] w (BIs (sameR r q) w) := by
  obtain ⟨va, vb, rfl, hi1, ho1, hk1⟩ := h1
  obtain ⟨vc, vd, rfl, hi2, ho2, hk2⟩ := h2
  have HT1 := Lib.hid (rec_tx hi1 ho1 hk1)
  have HT2 := Lib.hid (rec_tx hi2 ho2 hk2)
  obtain ⟨ia, ic, rfl, -, -⟩ := hi1.shape
  obtain ⟨oa, oc, rfl, -, -⟩ := ho1.shape
  obtain ⟨ja, jc, rfl, -, -⟩ := hi2.shape
  obtain ⟨pa, pc, rfl, -, -⟩ := ho2.shape
  have hsb := sameR_bits r q
  obtain ⟨b1, hb1⟩ : ∃ b, b = (r.kind == q.kind) := ⟨_, rfl⟩
  obtain ⟨b2, hb2⟩ : ∃ b, b = (r.num == q.num) := ⟨_, rfl⟩
  obtain ⟨b3, hb3⟩ : ∃ b, b = sameTx r.tx q.tx := ⟨_, rfl⟩
  obtain ⟨b4, hb4⟩ : ∃ b, b = (r.index == q.index) := ⟨_, rfl⟩
  obtain ⟨b5, hb5⟩ : ∃ b, b = sameC r.cl q.cl := ⟨_, rfl⟩
  obtain ⟨b6, hb6⟩ : ∃ b, b = (r.budget == q.budget) := ⟨_, rfl⟩
  obtain ⟨b7, hb7⟩ : ∃ b, b = (r.start == q.start) := ⟨_, rfl⟩
  obtain ⟨b8, hb8⟩ : ∃ b, b = (r.fee == q.fee) := ⟨_, rfl⟩
  rw [← hb1, ← hb2, ← hb3, ← hb4, ← hb5, ← hb6, ← hb7, ← hb8] at hsb
  rw [hsb]
  have hgc := guardCl
  have heq : ∀ w : World, (Op.equalIn 10000 36 (.agg #[.string r.id, .int .u32 r.idx, .int .i64 r.val, .int .i64 r.br, .int .u16 r.tag, .int .u16 r.delay, .int .u32 r.height, .int .i64 r.dead]) (.agg #[.string q.id, .int .u32 q.idx, .int .i64 q.val, .int .i64 q.br, .int .u16 q.tag, .int .u16 q.delay, .int .u32 q.height, .int .i64 q.dead])).run Try.prog w = .ok b5 w := fun w => by rw [hb5]; exact eqIn_cl r.cl q.cl w
  have HS := Lib.hid (fun (w2 : World) (h : Below w.heap.size w w2) => hb3 ▸ equal_any _ _ r.tx q.tx w2 (HT1.out.below h) (HT2.out.below h))
  have c1 := hb1.symm
  have c2 := hb2.symm
  have c4 := hb4.symm
  have c6 := hb6.symm
  have c7 := hb7.symm
  have c8 := hb8.symm
  clear hsb hb1 hb2 hb3 hb4 hb5 hb6 hb7 hb8 hi1 ho1 hk1 hi2 ho2 hk2 HT1 HT2
  obtain ⟨n1, hn1⟩ : ∃ n, n = r.tx.ins.length := ⟨_, rfl⟩
  obtain ⟨n2, hn2⟩ : ∃ n, n = r.tx.outs.length := ⟨_, rfl⟩
  obtain ⟨n3, hn3⟩ : ∃ n, n = q.tx.ins.length := ⟨_, rfl⟩
  obtain ⟨n4, hn4⟩ : ∃ n, n = q.tx.outs.length := ⟨_, rfl⟩
  rw [← hn1, ← hn2, ← hn3, ← hn4] at HS
  rw [← hn1, ← hn2, ← hn3, ← hn4]
  clear hn1 hn2 hn3 hn4
  go_enter Try.func13, Try.ntmps13
  go_upto_region 1 with fail
  obtain ⟨X, hX⟩ : ∃ q, q = w.heap.size := ⟨_, rfl⟩
  have hnews := new2 w X hX (.cells #[.int .i64 r.kind, .int .i64 r.num, .int .u32 r.tx.ver, .slice ia n1 ic, .slice oa n2 oc, .int .u32 r.tx.lock, .int .i64 r.index, .string r.id, .int .u32 r.idx, .int .i64 r.val, .int .i64 r.br, .int .u16 r.tag, .int .u16 r.delay, .int .u32 r.height, .int .i64 r.dead, .int .i64 r.budget, .int .i64 r.start, .int .i64 r.fee] 38) (.cells #[.int .i64 q.kind, .int .i64 q.num, .int .u32 q.tx.ver, .slice ja n3 jc, .slice pa n4 pc, .int .u32 q.tx.lock, .int .i64 q.index, .string q.id, .int .u32 q.idx, .int .i64 q.val, .int .i64 q.br, .int .u16 q.tag, .int .u16 q.delay, .int .u32 q.height, .int .i64 q.dead, .int .i64 q.budget, .int .i64 q.start, .int .i64 q.fee] 38)
  rw [← hX]
  generalize ((w.alloc (.cells #[.int .i64 r.kind, .int .i64 r.num, .int .u32 r.tx.ver, .slice ia n1 ic, .slice oa n2 oc, .int .u32 r.tx.lock, .int .i64 r.index, .string r.id, .int .u32 r.idx, .int .i64 r.val, .int .i64 r.br, .int .u16 r.tag, .int .u16 r.delay, .int .u32 r.height, .int .i64 r.dead, .int .i64 r.budget, .int .i64 r.start, .int .i64 r.fee] 38)).alloc (.cells #[.int .i64 q.kind, .int .i64 q.num, .int .u32 q.tx.ver, .slice ja n3 jc, .slice pa n4 pc, .int .u32 q.tx.lock, .int .i64 q.index, .string q.id, .int .u32 q.idx, .int .i64 q.val, .int .i64 q.br, .int .u16 q.tag, .int .u16 q.delay, .int .u32 q.height, .int .i64 q.dead, .int .i64 q.budget, .int .i64 q.start, .int .i64 q.fee] 38)) = w0 at *
  obtain ⟨hz0, hz1, hal⟩ := hnews
  have x0 : w0.cell? ⟨X, 0, none⟩ = some (.int .i64 r.kind) := cell_at hz0
  have x1 : w0.cell? ⟨X, 1, none⟩ = some (.int .i64 r.num) := cell_at hz0
  have x2 : w0.cell? ⟨X, 2, none⟩ = some (.int .u32 r.tx.ver) := cell_at hz0
  have x3 : w0.cell? ⟨X, 3, none⟩ = some (.slice ia n1 ic) := cell_at hz0
  have x4 : w0.cell? ⟨X, 4, none⟩ = some (.slice oa n2 oc) := cell_at hz0
  have x5 : w0.cell? ⟨X, 5, none⟩ = some (.int .u32 r.tx.lock) := cell_at hz0
  have x6 : w0.cell? ⟨X, 6, none⟩ = some (.int .i64 r.index) := cell_at hz0
  have x7 : w0.cell? ⟨X, 7, none⟩ = some (.string r.id) := cell_at hz0
  have x8 : w0.cell? ⟨X, 8, none⟩ = some (.int .u32 r.idx) := cell_at hz0
  have x9 : w0.cell? ⟨X, 9, none⟩ = some (.int .i64 r.val) := cell_at hz0
  have x10 : w0.cell? ⟨X, 10, none⟩ = some (.int .i64 r.br) := cell_at hz0
  have x11 : w0.cell? ⟨X, 11, none⟩ = some (.int .u16 r.tag) := cell_at hz0
  have x12 : w0.cell? ⟨X, 12, none⟩ = some (.int .u16 r.delay) := cell_at hz0
  have x13 : w0.cell? ⟨X, 13, none⟩ = some (.int .u32 r.height) := cell_at hz0
  have x14 : w0.cell? ⟨X, 14, none⟩ = some (.int .i64 r.dead) := cell_at hz0
  have x15 : w0.cell? ⟨X, 15, none⟩ = some (.int .i64 r.budget) := cell_at hz0
  have x16 : w0.cell? ⟨X, 16, none⟩ = some (.int .i64 r.start) := cell_at hz0
  have x17 : w0.cell? ⟨X, 17, none⟩ = some (.int .i64 r.fee) := cell_at hz0
  have y0 : w0.cell? ⟨X + 1, 0, none⟩ = some (.int .i64 q.kind) := cell_at hz1
  have y1 : w0.cell? ⟨X + 1, 1, none⟩ = some (.int .i64 q.num) := cell_at hz1
  have y2 : w0.cell? ⟨X + 1, 2, none⟩ = some (.int .u32 q.tx.ver) := cell_at hz1
  have y3 : w0.cell? ⟨X + 1, 3, none⟩ = some (.slice ja n3 jc) := cell_at hz1
  have y4 : w0.cell? ⟨X + 1, 4, none⟩ = some (.slice pa n4 pc) := cell_at hz1
  have y5 : w0.cell? ⟨X + 1, 5, none⟩ = some (.int .u32 q.tx.lock) := cell_at hz1
  have y6 : w0.cell? ⟨X + 1, 6, none⟩ = some (.int .i64 q.index) := cell_at hz1
  have y7 : w0.cell? ⟨X + 1, 7, none⟩ = some (.string q.id) := cell_at hz1
  have y8 : w0.cell? ⟨X + 1, 8, none⟩ = some (.int .u32 q.idx) := cell_at hz1
  have y9 : w0.cell? ⟨X + 1, 9, none⟩ = some (.int .i64 q.val) := cell_at hz1
  have y10 : w0.cell? ⟨X + 1, 10, none⟩ = some (.int .i64 q.br) := cell_at hz1
  have y11 : w0.cell? ⟨X + 1, 11, none⟩ = some (.int .u16 q.tag) := cell_at hz1
  have y12 : w0.cell? ⟨X + 1, 12, none⟩ = some (.int .u16 q.delay) := cell_at hz1
  have y13 : w0.cell? ⟨X + 1, 13, none⟩ = some (.int .u32 q.height) := cell_at hz1
  have y14 : w0.cell? ⟨X + 1, 14, none⟩ = some (.int .i64 q.dead) := cell_at hz1
  have y15 : w0.cell? ⟨X + 1, 15, none⟩ = some (.int .i64 q.budget) := cell_at hz1
  have y16 : w0.cell? ⟨X + 1, 16, none⟩ = some (.int .i64 q.start) := cell_at hz1
  have y17 : w0.cell? ⟨X + 1, 17, none⟩ = some (.int .i64 q.fee) := cell_at hz1
  have HS0 := Lib.hid (HS.out w0 hal)
  have HB0 := Lib.hid hal
  clear hz0 hz1 hal hX HS
  cases b1
  · go_wp2_with fail
    go_ret
    exact ⟨rfl, HB0.out⟩
  cases b2
  · go_wp2_with fail
    go_ret
    exact ⟨rfl, HB0.out⟩
  go_wp2_with fail
  refine HS0.out.mono ?_
  rintro e w1 ⟨rfl, hb⟩
  have HB1 := Lib.hid (HB0.out.trans (hb.mono HB0.out.size))
  replace x0 := below_cells hb _ _ x0
  replace x1 := below_cells hb _ _ x1
  replace x2 := below_cells hb _ _ x2
  replace x3 := below_cells hb _ _ x3
  replace x4 := below_cells hb _ _ x4
  replace x5 := below_cells hb _ _ x5
  replace x6 := below_cells hb _ _ x6
  replace x7 := below_cells hb _ _ x7
  replace x8 := below_cells hb _ _ x8
  replace x9 := below_cells hb _ _ x9
  replace x10 := below_cells hb _ _ x10
  replace x11 := below_cells hb _ _ x11
  replace x12 := below_cells hb _ _ x12
  replace x13 := below_cells hb _ _ x13
  replace x14 := below_cells hb _ _ x14
  replace x15 := below_cells hb _ _ x15
  replace x16 := below_cells hb _ _ x16
  replace x17 := below_cells hb _ _ x17
  replace y0 := below_cells hb _ _ y0
  replace y1 := below_cells hb _ _ y1
  replace y2 := below_cells hb _ _ y2
  replace y3 := below_cells hb _ _ y3
  replace y4 := below_cells hb _ _ y4
  replace y5 := below_cells hb _ _ y5
  replace y6 := below_cells hb _ _ y6
  replace y7 := below_cells hb _ _ y7
  replace y8 := below_cells hb _ _ y8
  replace y9 := below_cells hb _ _ y9
  replace y10 := below_cells hb _ _ y10
  replace y11 := below_cells hb _ _ y11
  replace y12 := below_cells hb _ _ y12
  replace y13 := below_cells hb _ _ y13
  replace y14 := below_cells hb _ _ y14
  replace y15 := below_cells hb _ _ y15
  replace y16 := below_cells hb _ _ y16
  replace y17 := below_cells hb _ _ y17
  clear hb HS0 HB0
  cases b3
  · go_wp2_with fail
    go_ret
    exact ⟨rfl, HB1.out⟩
  cases b4
  · go_wp2_with fail
    go_ret
    exact ⟨rfl, HB1.out⟩
  cases b5
  · go_wp2_with fail
    go_ret
    exact ⟨rfl, HB1.out⟩
  cases b6
  · go_wp2_with fail
    go_ret
    exact ⟨rfl, HB1.out⟩
  cases b7
  · go_wp2_with fail
    go_ret
    exact ⟨rfl, HB1.out⟩
  cases b8
  · go_wp2_with fail
    go_ret
    exact ⟨rfl, HB1.out⟩
  go_wp2_with fail
  go_ret
  exact ⟨rfl, HB1.out⟩
end Go.Proofs.Ytaooibocknemkaa
end

section
/-
  SHA-256: one round. Conditions: none beyond each theorem's own.
-/
namespace Go.Proofs.Ytaooibocknemkaa
open Go.RowKit Go.BigFrame
set_option linter.unusedVariables false
set_option linter.unusedSimpArgs false

theorem quiet_same {P : Program} {f : FuncId} {args : Array Value} {w : World} {n : Nat} {v : Value}
    (h : Calls P f args (w.drewN n) fun e w' => e = .returned v ∧ w.drewN n = w') : Calls P f args (w.drewN n) fun e w'' => e = .returned v ∧ ∃ m, w'' = w.drewN m :=
  h.mono fun _ _ ⟨he, hm⟩ => ⟨he, n, hm.symm⟩

theorem quiet_same2 {P : Program} {f : FuncId} {args : Array Value} {w : World} {q n : Nat} {v : Value}
    (h : Calls P f args (w.drewN (q + n)) fun e w' => e = .returned v ∧ w.drewN (q + n) = w') : Calls P f args (w.drewN (q + n)) fun e w'' => e = .returned v ∧ ∃ m, w'' = w.drewN (q + m) :=
  h.mono fun _ _ ⟨he, hm⟩ => ⟨he, n, hm.symm⟩

/-- The eight words of a state. -/
structure St where
  a : W32
  b : W32
  c : W32
  d : W32
  e : W32
  f : W32
  g : W32
  h : W32
def St.val (s : St) : Value := .agg #[.int .u32 (nv s.a), .int .u32 (nv s.b), .int .u32 (nv s.c), .int .u32 (nv s.d), .int .u32 (nv s.e), .int .u32 (nv s.f), .int .u32 (nv s.g), .int .u32 (nv s.h)]
def tOf (s : St) (k w : W32) : W32 := s.h + (s.e.rotateRight 6 ^^^ s.e.rotateRight 11 ^^^ s.e.rotateRight 25) + ((s.e &&& s.f) ^^^ (~~~s.e &&& s.g)) + k + w
def uOf (s : St) : W32 := (s.a.rotateRight 2 ^^^ s.a.rotateRight 13 ^^^ s.a.rotateRight 22) + ((s.a &&& s.b) ^^^ (s.a &&& s.c) ^^^ (s.b &&& s.c))
def rnd (s : St) (k w : W32) : St := ⟨tOf s k w + uOf s, s.a, s.b, s.c, s.d + tOf s k w, s.e, s.f, s.g⟩

end Go.Proofs.Ytaooibocknemkaa
end

section
/-
  SHA-256: rows of words, the schedule of a block. Conditions: none beyond each theorem's own.
-/
namespace Go.Proofs.Ytaooibocknemkaa
open Go.RowKit Go.BigFrame
set_option linter.unusedVariables false
set_option linter.unusedSimpArgs false

/-- A row of words. -/
def ArrAt (w : World) (b n : Nat) (f : Nat → W32) : Prop := ∃ cs e, w.heap[b]? = some (.cells cs e (0, 0)) ∧ cs.size = n ∧ ∀ i, i < n → cs[i]? = some (.int .u32 (nv (f i)))
def upd (f : Nat → W32) (i : Nat) (x : W32) : Nat → W32 := fun j => if j = i then x else f j
theorem ArrAt.cell {w : World} {b n i : Nat} {f : Nat → W32} (h : ArrAt w b n f) (hi : i < n) : w.cell? ⟨b, i, none⟩ = some (.int .u32 (nv (f i))) := by
  obtain ⟨cs, e, h1, h2, h3⟩ := h
  rw [cell_at h1]; exact h3 i hi
theorem ArrAt.free {w : World} {b n i : Nat} {f : Nat → W32} (h : ArrAt w b n f) : w.frozen? ⟨b, i, none⟩ = false := by
  obtain ⟨cs, e, h1, h2, h3⟩ := h
  exact free_at h1
theorem ArrAt.next {w w' : World} {b n X : Nat} {f : Nat → W32} (h : ArrAt w b n f) (hb : Below X w w') (hX : b < X) : ArrAt w' b n f := by
  obtain ⟨cs, e, h1, h2, h3⟩ := h
  exact ⟨cs, e, (hb.block _ hX).trans h1, h2, h3⟩
theorem ArrAt.lt {w : World} {b n : Nat} {f : Nat → W32} (h : ArrAt w b n f) : b < w.heap.size := by
  obtain ⟨cs, e, h1, h2, h3⟩ := h
  exact (Array.getElem?_eq_some_iff.1 h1).1
theorem ArrAt.set {w : World} {b n i : Nat} {f : Nat → W32} (h : ArrAt w b n f) (x : W32) : ArrAt (w.setCell ⟨b, i, none⟩ (.int .u32 (nv x))) b n (upd f i x) := by
  obtain ⟨cs, e, h1, h2, h3⟩ := h
  refine ⟨_, e, heap_setCell_at h1, by simpa using h2, fun j hj => ?_⟩
  unfold upd
  by_cases hji : j = i
  · subst hji
    rw [if_pos rfl]
    simp [h2, hj]
  · rw [if_neg hji, Array.getElem?_setIfInBounds_ne (Ne.symm hji)]
    exact h3 j hj
theorem ArrAt.same {w : World} {b n : Nat} {f g : Nat → W32} (h : ArrAt w b n f) (he : ∀ i, i < n → f i = g i) : ArrAt w b n g := by
  obtain ⟨cs, e, h1, h2, h3⟩ := h
  exact ⟨cs, e, h1, h2, fun i hi => by rw [h3 i hi, he i hi]⟩
theorem nv_zero : nv 0 = 0 := by decide
/-- The row as one value. -/
def arrV (n : Nat) (f : Nat → W32) : Array Value := ((List.range n).map fun i => Value.int .u32 (nv (f i))).toArray
theorem arrV_size (n : Nat) (f : Nat → W32) : (arrV n f).size = n := by simp [arrV]
theorem ArrAt.load {w : World} {b n : Nat} {f : Nat → W32} {P : Program} (h : ArrAt w b n f) : (loadCellsFrom ⟨b, 0, none⟩ 0 n #[]).run P w = .ok (arrV n f) w := by
  have := run_loadCellsFrom (P := P) w ⟨b, 0, none⟩ (fun i => Value.int .u32 (nv (f i))) n 0 #[] (fun j hj => by
    rw [Addr.add_lit, Nat.zero_add, Nat.zero_add]
    exact h.cell hj)
  rw [this]
  simp [arrV]

theorem ArrAt.heap {w : World} {b n : Nat} {f : Nat → W32} (h : ArrAt w b n f) : ∃ e, w.heap[b]? = some (.cells (arrV n f) e (0, 0)) := by
  obtain ⟨cs, e, h1, h2, h3⟩ := h
  have : cs = arrV n f := by
    apply Array.ext
    · rw [h2, arrV_size]
    · intro i hi1 hi2
      have h4 := h3 i (by omega)
      rw [Array.getElem?_eq_getElem hi1] at h4
      rw [Option.some.inj h4]
      simp [arrV]
  subst this
  exact ⟨e, h1⟩
theorem arrV_one (n : Nat) (f : Nat → W32) : (arrV n f).all (·.oneCell') = true := by
  rw [Array.all_eq_true_iff_forall_mem]
  intro u hu
  have h1 : ∃ j, j < n ∧ Value.int .u32 (nv (f j)) = u := by simpa [arrV] using hu
  obtain ⟨j, -, rfl⟩ := h1
  rfl
section
variable {P : Program}
theorem wpList_load_arr {ops : Array Oper} {rest : List Oper} {o : Oper} {a : Act} {w : World} {Q : Exit → Act → World → Prop} {b n : Nat} {f : Nat → W32} {d : TypeDesc} (h : ArrAt w b n f) (hg : o.guard = none) (t : TypeId) (x : Operand)
    (ho : o.op = .load t x) (hx : a.eval x = .pointer (some ⟨b, 0, none⟩)) (hu : P.underlying t = some d) (hd : (match d with | .struct _ | .array _ _ => true | _ => false) = true) (hi : (P.info? t).map (·.size) = some n)
    (hK : wpList P ops Q rest (a.put o.dst (.agg (arrV n f))) w) : wpList P ops Q (o :: rest) a w := by
  obtain ⟨e, he⟩ := h.heap
  refine wpList_run hg ?_ hK
  simp only [execOp, ho, hx, Instr.loadAt, Instr.sureAddr, Sem.run_bind, Sem.run_pure, Result.andThen, run_loadVar_row w b e t (arrV n f) (0, 0) d he hu hd (by rw [arrV_size]; exact hi)]
theorem wpList_store_arr {ops : Array Oper} {rest : List Oper} {o : Oper} {a : Act} {w : World} {Q : Exit → Act → World → Prop} {b n : Nat} {f g : Nat → W32} (h : ArrAt w b n g) (hg : o.guard = none) (t : TypeId) (x y : Operand)
    (ho : o.op = .store t x y) (hx : a.eval x = .pointer (some ⟨b, 0, none⟩)) (hy : a.eval y = .agg (arrV n f)) (hi : (P.info? t).map (·.size) = some n)
    (hK : wpList P ops Q rest (a.put o.dst undef) (w.setRow b (arrV n f))) : wpList P ops Q (o :: rest) a w := by
  obtain ⟨e, he⟩ := h.heap
  refine wpList_plain hg fun K hK' => ?_
  unfold Oper.wp
  have hr : (execOp a.eval o).run P w = .ok .skip (w.setRow b (arrV n f)) := by
    simp only [execOp, ho, hx, hy, Instr.storeAt, Instr.sureAddr, Sem.run_bind, Sem.run_pure, Result.andThen, run_storeVar_row w b e t (arrV n g) (arrV n f) he (by rw [arrV_size]; exact hi) (by rw [arrV_size, arrV_size]) (arrV_one n f)]
  rw [hr]
  exact hK' _ _ hK
end
theorem ArrAt.row {w : World} {b n : Nat} {f g : Nat → W32} (h : ArrAt w b n g) : ArrAt (w.setRow b (arrV n f)) b n f := by
  obtain ⟨e, he⟩ := h.heap
  exact ⟨_, e, setRow_heap w b _ _ e (0, 0) he, arrV_size n f, fun i hi => by simp [arrV, hi]⟩

/-- What comes behind the first sixteen words. -/
def nextW (f : Nat → W32) (i : Nat) : W32 :=
  f (i - 16) + ((f (i - 15)).rotateRight 7 ^^^ (f (i - 15)).rotateRight 18 ^^^ f (i - 15) >>> 3) + f (i - 7) + ((f (i - 2)).rotateRight 17 ^^^ (f (i - 2)).rotateRight 19 ^^^ f (i - 2) >>> 10)
def sch (m : Nat → W32) : Nat → Nat → W32
  | 0 => fun _ => 0
  | i + 1 => upd (sch m i) i (if i < 16 then m i else nextW (sch m i) i)
/-- A word of a text's bytes. -/
def byteW (s : ByteArray) (i : Nat) : W32 := BitVec.ofNat 32 (s.data.toList.getD i 0).toNat
def msgW (s : ByteArray) (i : Nat) : W32 := ((((byteW s (4 * i)) <<< 8 ||| byteW s (4 * i + 1)) <<< 8 ||| byteW s (4 * i + 2)) <<< 8 ||| byteW s (4 * i + 3))

def SchedIs (s : ByteArray) (w : World) (e : Ending) (w' : World) : Prop := e = .returned (.agg (arrV 64 (sch (msgW s) 64))) ∧ Below w.heap.size w w'

theorem gen_world {P : Program} {c : Code} {Q : Exit → Act → World → Prop} {a : Act} {W : World} (F : World → Prop) (h : F W) (k : ∀ w0, F w0 → Code.wp P c Q a w0) : Code.wp P c Q a W := k W h

/-- The call's two rows. -/
structure SW (w : World) (f : Nat → W32) (wr : World) : Prop where
  bel : Below w.heap.size w wr
  res : ArrAt wr w.heap.size 64 (fun _ => 0)
  row : ArrAt wr (w.heap.size + 1) 64 f
theorem arr_rep {w : World} {b n : Nat} {e : TypeId} (h : w.heap[b]? = some (.cells (Array.replicate n (.int .u32 0)) e (0, 0))) : ArrAt w b n (fun _ => 0) :=
  ⟨_, e, h, by simp, fun i hi => by rw [nv_zero]; simp [hi]⟩
theorem SW.start (w : World) (e : TypeId) : SW w (fun _ => 0) ((w.alloc (.cells (Array.replicate 64 (.int .u32 0)) e)).alloc (.cells (Array.replicate 64 (.int .u32 0)) e)) := by
  have s1 : (w.alloc (.cells (Array.replicate 64 (.int .u32 0)) e)).heap.size = w.heap.size + 1 := by simp
  refine ⟨((Below.refl _ _).alloc (Nat.le_refl _) _).alloc (by omega) _, arr_rep (e := e) ?_, arr_rep (e := e) ?_⟩
  · rw [Below.heap_alloc _ _ _ (by omega)]
    exact heap_alloc_new w _
  · rw [← s1]
    exact heap_alloc_new _ _
theorem SW.next {w wr w' : World} {f : Nat → W32} (h : SW w f wr) (hb : Below wr.heap.size wr w') : SW w f w' :=
  ⟨h.bel.trans (hb.mono h.bel.size), h.res.next hb h.res.lt, h.row.next hb h.row.lt⟩
theorem SW.put {w wr : World} {f : Nat → W32} (h : SW w f wr) (i : Nat) (x : W32) : SW w (upd f i x) (wr.setCell ⟨w.heap.size + 1, i, none⟩ (.int .u32 (nv x))) := by
  refine ⟨h.bel.setCell (by simp) _, ?_, h.row.set x⟩
  obtain ⟨cs, e, h1, h2, h3⟩ := h.res
  exact ⟨cs, e, (Below.heap_setCell _ _ _ _ (by simp)).trans h1, h2, h3⟩

theorem byteW_range (s : ByteArray) (i : Nat) : 0 ≤ nv (byteW s i) ∧ nv (byteW s i) ≤ 255 := by
  unfold nv byteW
  rw [BitVec.toNat_ofNat]
  have := (s.data.toList.getD i 0).toNat_lt
  have : (s.data.toList.getD i 0).toNat % 2 ^ 32 = (s.data.toList.getD i 0).toNat := Nat.mod_eq_of_lt (by omega)
  omega
theorem byteW_nv (s : ByteArray) (i : Nat) : nv (byteW s i) = ((s.data.toList.getD i 0).toNat : Int) := by
  unfold nv byteW
  rw [BitVec.toNat_ofNat]
  have := (s.data.toList.getD i 0).toNat_lt
  have : (s.data.toList.getD i 0).toNat % 2 ^ 32 = (s.data.toList.getD i 0).toNat := Nat.mod_eq_of_lt (by omega)
  omega
theorem nv_shl8 (x : W32) : nv x * (256 : Int) % (4294967296 : Int) = nv (x <<< (8 : Nat)) := nv_shl x 8
theorem nv_shr3 (x : W32) : nv x / (8 : Int) = nv (x >>> (3 : Nat)) := nv_shr x 3
theorem nv_shr10 (x : W32) : nv x / (1024 : Int) = nv (x >>> (10 : Nat)) := nv_shr x 10
def pw (s : ByteArray) (k : Nat) : Nat → W32
  | 0 => 0
  | j + 1 => pw s k j <<< 8 ||| byteW s (4 * k + j)
theorem pw_four (s : ByteArray) (k : Nat) : pw s k 4 = msgW s k := by
  unfold msgW
  simp only [pw, Nat.add_zero]
  have : (0 : W32) <<< 8 ||| byteW s (4 * k) = byteW s (4 * k) := by simp
  rw [this]
theorem sch_ge (m : Nat → W32) : ∀ (k i : Nat), k ≤ i → sch m k i = 0
  | 0, _, _ => rfl
  | k + 1, i, h => by
    show upd (sch m k) k _ i = 0
    unfold upd
    rw [if_neg (by omega)]
    exact sch_ge m k i (by omega)
theorem upd_same {f : Nat → W32} {i : Nat} {x : W32} (h : f i = x) : upd f i x = f := by
  funext j
  unfold upd
  split
  · rename_i e; rw [e, h]
  · rfl
theorem upd_upd (f : Nat → W32) (i : Nat) (x y : W32) : upd (upd f i x) i y = upd f i y := by
  funext j
  unfold upd
  split <;> rfl

/-- Four bytes of a text, in a row of their own. -/
theorem conv4 (s : ByteArray) (k : Nat) (hk : 4 * k + 4 ≤ s.size) (w : World) : ∃ c w', (convert 9 49 (.string (s.extract (4 * k) (4 * k + 4)))).run Try.prog w = .ok (.slice (some ⟨w.heap.size, 0, none⟩) 4 c) w' ∧ Below w.heap.size w w' ∧ 4 ≤ c ∧ c ≤ 9223372036854775807 ∧
    w.heap.size < w'.heap.size ∧ ∀ j, j < 4 → w'.cell? ⟨w.heap.size, j, none⟩ = some (.int .u8 (nv (byteW s (4 * k + j)))) := by
  have hsz : (s.extract (4 * k) (4 * k + 4)).size = 4 := by simp [ByteArray.size_extract]; omega
  have hr := run_bytes_of_string (P := Try.prog) w 9 49 5 (s.extract (4 * k) (4 * k + 4)) Try.underlying9 Try.underlying49 Try.underlying5
  rw [hsz] at hr
  have hc1 := grownCap_ge w 4 0 5
  have hc2 := grownCap_le_maxLen w 4 0 5 (by rw [maxLen_eq]; omega)
  rw [maxLen_eq] at hc2
  refine ⟨_, _, hr, (Below.refl _ _).drew.alloc (Nat.le_refl _) _, hc1, hc2, by simp, fun j hj => ?_⟩
  have hh : (w.drew.alloc (.cells (bytesRow (s.extract (4 * k) (4 * k + 4)) (grownCap w 4 0 5)) 5 ((bytesRow (s.extract (4 * k) (4 * k + 4)) (grownCap w 4 0 5)).size, (bytesRow (s.extract (4 * k) (4 * k + 4)) (grownCap w 4 0 5)).size + 1))).heap[w.heap.size]? = some (.cells (bytesRow (s.extract (4 * k) (4 * k + 4)) (grownCap w 4 0 5)) 5 ((bytesRow (s.extract (4 * k) (4 * k + 4)) (grownCap w 4 0 5)).size, (bytesRow (s.extract (4 * k) (4 * k + 4)) (grownCap w 4 0 5)).size + 1)) := heap_alloc_new w.drew _
  simp only [World.cell?, hh]
  rw [byteW_nv]
  unfold bytesRow
  rw [Array.getElem?_append_left (by rw [Array.size_map]; have : (s.extract (4 * k) (4 * k + 4)).data.size = 4 := hsz; omega)]
  rw [Array.getElem?_map]
  have h1 : (s.extract (4 * k) (4 * k + 4)).data[j]? = some (s.data.toList.getD (4 * k + j) 0) := by
    have hd : (s.extract (4 * k) (4 * k + 4)).data = s.data.extract (4 * k) (4 * k + 4) := by simp
    have hs2 : s.data.size = s.size := rfl
    rw [hd, Array.getElem?_extract, if_pos (by omega)]
    have hlt : 4 * k + j < s.data.size := by omega
    rw [Array.getElem?_eq_getElem hlt]
    simp [List.getD, Array.getElem?_eq_getElem hlt]
  rw [h1]
  rfl

attribute [-go_sem] loadCellsFrom
end Go.Proofs.Ytaooibocknemkaa
end

section
/-
  SHA-256: numbers as bytes, the highest first. Conditions: none beyond each theorem's own.
-/
namespace Go.Proofs.Ytaooibocknemkaa
open Go.RowKit Go.BigFrame
set_option linter.unusedVariables false
set_option linter.unusedSimpArgs false

/-- The lowest so many bytes of a number, the highest first. -/
def beL (n : Nat) : Nat → List UInt8
  | 0 => []
  | i + 1 => UInt8.ofNat (n / 256 ^ i) :: beL n i
theorem beL_len (n k : Nat) : (beL n k).length = k := by induction k with | zero => rfl | succ k ih => simp [beL, ih]

theorem info_u8b : (Try.prog.info? 5).map (fun i => (i.zero, i.size, i.bytes)) = some (some (.int .u8 0), 1, 1) := by kernel_rfl
theorem made_bytes (k : Nat) : (madeCells (Value.int .u8 0).cells (k * 1)).toList = bytesOf (List.replicate k 0) := by
  apply List.ext_getElem
  · simp [madeCells, bytesOf]
  · intro i h1 h2
    simp [madeCells, bytesOf, Value.cells, Nat.mod_one]
theorem bytesOf_set (l : List UInt8) (i : Nat) (b : UInt8) : (bytesOf l).set i (.int .u8 b.toNat) = bytesOf (l.set i b) := by simp [bytesOf, List.map_set]
theorem be_step (n k j : Nat) (h : j < k) : (List.replicate (k - j) (0 : UInt8) ++ beL n j).set (k - 1 - j) (UInt8.ofNat (n / 256 ^ j)) = List.replicate (k - (j + 1)) 0 ++ beL n (j + 1) := by
  obtain ⟨m, rfl⟩ : ∃ m, k = j + 1 + m := ⟨k - (j + 1), by omega⟩
  rw [show j + 1 + m - j = m + 1 by omega, show j + 1 + m - 1 - j = m by omega, show j + 1 + m - (j + 1) = m by omega]
  rw [List.replicate_succ', List.append_assoc, List.set_append_right _ _ (by simp)]
  simp [beL]

end Go.Proofs.Ytaooibocknemkaa
end

section
/-
  A strings.Builder that a call has made itself: copyCheck and WriteString. Conditions: it lies in a block of the call's own; together no more than 2^47 bytes.
-/
namespace Go.Proofs.Ytaooibocknemkaa
open Go.RowKit
set_option linter.unusedVariables false

set_option maxHeartbeats 1000000 in
set_option maxRecDepth 100000 in
theorem check_used (b : Nat) (w : World) (h0 : w.cell? ⟨b, 0, none⟩ = some (.pointer (some ⟨b, 0, none⟩))) :
    Calls Try.prog 84 #[.pointer (some ⟨b, 0, none⟩)] w fun e w' => e = .returned (.tuple #[]) ∧ w = w' := by
  obtain ⟨j, hj, _⟩ := Option.map_eq_some_iff.1 (show (Try.prog.info? 111).map (·.size) = some 2 by kernel_rfl)
  have hne := Lib.run_neq_ptr_same (P := Try.prog) w ⟨b, 0, none⟩ Try.underlying109 hj
  go_enter Try.func84, Try.ntmps84
  go_wp2
  go_end0
  exact ⟨rfl, rfl⟩

set_option maxHeartbeats 1000000 in
set_option maxRecDepth 100000 in
theorem check_fresh (b : Nat) (w : World) (h0 : w.cell? ⟨b, 0, none⟩ = some (.pointer none)) (hsh : w.shape? b = some (111, 2)) (hfz : w.frozen? ⟨b, 0, none⟩ = false) :
    Calls Try.prog 84 #[.pointer (some ⟨b, 0, none⟩)] w fun e w' => e = .returned (.tuple #[]) ∧ w.setCell ⟨b, 0, none⟩ (.pointer (some ⟨b, 0, none⟩)) = w' := by
  obtain ⟨j, hj, hjs⟩ := Option.map_eq_some_iff.1 (show (Try.prog.info? 111).map (·.size) = some 2 by kernel_rfl)
  have h1 := Lib.run_to_unsafe (P := Try.prog) w ⟨b, 0, none⟩ Try.underlying109 Try.underlying139 hj (by rw [hjs]; decide) hsh (Nat.zero_lt_succ 1)
  have h2 := Lib.run_from_unsafe (P := Try.prog) w ⟨b, 0, none⟩ Try.underlying139 Try.underlying109 hj hsh (by kernel_rfl)
  have h3 := Lib.run_neq_ptr_same (P := Try.prog) (w.setCell ⟨b, 0, none⟩ (.pointer (some ⟨b, 0, none⟩))) ⟨b, 0, none⟩ Try.underlying109 hj
  have H1 := Lib.hid h1
  have H2 := Lib.hid h2
  have H3 := Lib.hid h3
  clear h1 h2 h3 hsh hj hjs
  go_enter Try.func84, Try.ntmps84
  go_wp2
  rw [H1.out]
  simp only [Result.andThen]
  rw [Oper.upon_value]
  go_wp2
  rw [run_callFunc_extern Try.func92 (by kernel_rfl) (by kernel_rfl) (by kernel_rfl) (e := Extern.AbiNoEscape.same) (by kernel_rfl)]
  rw [Lib.run_noEscape]
  simp only [Result.andThen]
  rw [Oper.upon_value]
  go_wp2
  rw [H2.out]
  simp only [Result.andThen]
  rw [Oper.upon_value]
  go_wp2
  go_end0
  exact ⟨rfl, rfl⟩

/-- copyCheck: behind it the builder is used, its bytes are as they were. -/
theorem bcheck_any (B b : Nat) (bs : List Value) (w : World) (h : Lib.IsBuilder 111 5 B b bs w) :
    Calls Try.prog 84 #[.pointer (some ⟨b, 0, none⟩)] w fun e w' => e = .returned (.tuple #[]) ∧ Lib.BuilderAt 111 5 B b (.pointer (some ⟨b, 0, none⟩)) bs w' ∧ Below B w w' := by
  rcases h with h | h
  · exact (check_fresh b w h.cell0 h.shape h.frozen0).mono fun e w' ⟨h1, h2⟩ => ⟨h1, h2 ▸ h.used _, h2 ▸ (Below.refl B w).setCell (p := ⟨b, 0, none⟩) h.1 _⟩
  · exact (check_used b w h.cell0).mono fun e w' ⟨h1, h2⟩ => ⟨h1, h2 ▸ h, h2 ▸ Below.refl B _⟩

set_option maxHeartbeats 1000000 in
set_option maxRecDepth 100000 in
theorem bwrite_any (B b : Nat) (l : List UInt8) (s : ByteArray) (w : World) (h : Lib.IsBuilder 111 5 B b (bytesOf l) w) (hlen : l.length + s.size ≤ 140737488355328) (hBw : B ≤ w.heap.size) :
    Calls Try.prog 62 #[.pointer (some ⟨b, 0, none⟩), .string s] w fun e w' => e = .returned (.tuple #[.int .i64 s.size, .nilIface]) ∧
      Lib.IsBuilder 111 5 B b (bytesOf (l ++ s.data.toList)) w' ∧ Below B w w' := by
  obtain ⟨i0, hi, hz0, hz1, hz2⟩ := info_parts info_u8
  have HC := Lib.hid (bcheck_any B b (bytesOf l) w h)
  have HL := Lib.hid hlen
  clear h hlen
  go_enter Try.func62, Try.ntmps62
  go_wp2_with fail
  refine HC.out.mono ?_
  rintro e w1 ⟨rfl, hb1, hbl⟩
  obtain ⟨hB, v, hbk, hown, hne⟩ := hb1
  have hlt := (Array.getElem?_eq_some_iff.1 hbk).1
  rw [bytesOf_length] at hown
  obtain ⟨a, c, rfl, -, -⟩ := ownsRow_shape hown
  obtain ⟨v', w2, hrun, hown', hgrow, hnew⟩ := append_own_src (P := Try.prog) w1 B 49 9 49 5 i0 _ 1 1 Try.underlying49 hi hz0 hz1 hz2 rfl _ _ _ hown (.string s) s.size (byteCells s) (Src.ofString w1 Try.underlying9 s)
    (by rw [maxLen_eq]; have := HL.out; omega) (by have := HL.out; omega) (Nat.le_trans hBw hbl.size)
  obtain ⟨a', c', rfl, -, -⟩ := ownsRow_shape hown'
  have hb2 : w2.heap[b]? = _ := (hgrow.block b hlt (fun e => hne e.symm)).trans hbk
  have h1 : w1.cell? ⟨b, 1, none⟩ = some (.slice a l.length c) := cell_at hbk
  have h2 : w2.cell? ⟨b, 1, none⟩ = some (.slice a l.length c) := cell_at hb2
  have h3 : w2.frozen? ⟨b, 1, none⟩ = false := free_at hb2
  have hne' : (Value.slice a' (l.length + s.size) c').ownBlock ≠ some b := by
    rcases hnew with e | e
    · rw [e]; exact hne
    · rw [e]; intro e'; cases e'; exact absurd hlt (Nat.lt_irrefl _)
  have hfin : Lib.IsBuilder 111 5 B b (bytesOf (l ++ s.data.toList)) (w2.setCell ⟨b, 1, none⟩ (.slice a' (l.length + s.size) c')) ∧ Below B w (w2.setCell ⟨b, 1, none⟩ (.slice a' (l.length + s.size) c')) := by
    refine ⟨.inr ⟨hB, _, heap_setCell_at hb2, ?_, hne'⟩, (hbl.grown hgrow (Nat.le_trans hBw hbl.size) (fun k e => (hown.lt k e).1)).setCell (p := ⟨b, 1, none⟩) hB _⟩
    rw [bytesOf_length, List.length_append, data_len, bytesOf_append, ← byteCells_eq]
    exact ownsRow_of_block hown' fun k e => Below.heap_setCell _ _ _ _ (fun e' => hne' (by rw [e, e']))
  have HF := Lib.hid hfin
  have HR := Lib.hid hrun
  clear hfin hrun hown' hgrow hnew hbk hb2 hne hne' hown hi hz0 hz1 hz2
  go_wp2_with (at_builtin; refine wpList_append_run rfl (.tmp 12) (.tmp 13) 49 9 rfl rfl rfl HR.out ?_)
  go_ret2
  exact ⟨rfl, HF.out⟩

theorem isb_later {T e B b : Nat} {bs : List Value} {w w' : World} (h : Lib.IsBuilder T e B b bs w) (hb : Below w.heap.size w w') : Lib.IsBuilder T e B b bs w' := by
  have key : ∀ p, Lib.BuilderAt T e B b p bs w → Lib.BuilderAt T e B b p bs w' := fun p ⟨hB, v, hbk, hown, hne⟩ =>
    ⟨hB, v, by rw [hb.block b (Array.getElem?_eq_some_iff.1 hbk).1]; exact hbk, ownsRow_below hown hb, hne⟩
  exact h.imp (key _) (key _)
theorem isb_new (T e : Nat) (w : World) : Lib.IsBuilder T e w.heap.size w.heap.size [] (w.alloc (.cells #[.pointer none, .slice none 0 0] T)) :=
  .inl ⟨Nat.le_refl _, .slice none 0 0, heap_alloc_new w _, World.ownsRow_nil _ _ _ _, by simp [Value.ownBlock]⟩
theorem isb_lt {T e B b : Nat} {bs : List Value} {w : World} (h : Lib.IsBuilder T e B b bs w) : B ≤ b ∧ b < w.heap.size := by
  rcases h with h | h <;> exact ⟨h.1, h.lt⟩

theorem byteCells_same (l : List UInt8) : Lib.byteCells l = bytesOf l := rfl
theorem bstring_any (B b : Nat) (l : List UInt8) (w : World) (h : Lib.IsBuilder 111 5 B b (bytesOf l) w) (hBw : B ≤ w.heap.size) :
    Calls Try.prog 65 #[.pointer (some ⟨b, 0, none⟩)] w fun e w' => e = .returned (.string ⟨l.toArray⟩) ∧ Below B w w' :=
  Try.Builder_String_any B b l w h hBw

end Go.Proofs.Ytaooibocknemkaa
end

section
/-
  strings.Builder (Bld), for the texts about sha. Conditions: none.
-/
namespace Go.Proofs.Ytaooibocknemkaa
end Go.Proofs.Ytaooibocknemkaa
end

section
/-
  strings.Builder's WriteString, once more: all blocks but the builder's own stay. Conditions: those of bwrite_any.
-/
namespace Go.Proofs.Ytaooibocknemkaa
open Go.RowKit
set_option linter.unusedVariables false

/-- The builder's row is another block. -/
def RowNot (b X : Nat) (w : World) : Prop := ∀ (p v : Value) (T : TypeId) (f : Nat × Nat), w.heap[b]? = some (.cells #[p, v] T f) → v.ownBlock ≠ some X
/-- What isn't the builder's own stays. -/
def BKeep (b : Nat) (w w' : World) : Prop := ∀ X, X ≠ b → X < w.heap.size → RowNot b X w → w'.heap[X]? = w.heap[X]? ∧ RowNot b X w' ∧ X < w'.heap.size
theorem BKeep.refl (b : Nat) (w : World) : BKeep b w w := fun X h1 h2 h3 => ⟨rfl, h3, h2⟩
theorem BKeep.trans {b : Nat} {w1 w2 w3 : World} (h : BKeep b w1 w2) (k : BKeep b w2 w3) : BKeep b w1 w3 := fun X h1 h2 h3 => by
  obtain ⟨e1, r1, l1⟩ := h X h1 h2 h3
  obtain ⟨e2, r2, l2⟩ := k X h1 l1 r1
  exact ⟨e2.trans e1, r2, l2⟩
theorem BKeep.of_below {b : Nat} {w w' : World} (h : Below w.heap.size w w') (hb : b < w.heap.size) : BKeep b w w' := fun X h1 h2 h3 =>
  ⟨h.block X h2, fun p v T f e => h3 p v T f (by rw [← h.block b hb]; exact e), Nat.lt_of_lt_of_le h2 h.size⟩
theorem bcheck_x (B b : Nat) (bs : List Value) (w : World) (h : Lib.IsBuilder 111 5 B b bs w) :
    Calls Try.prog 84 #[.pointer (some ⟨b, 0, none⟩)] w fun e w' => e = .returned (.tuple #[]) ∧ Lib.BuilderAt 111 5 B b (.pointer (some ⟨b, 0, none⟩)) bs w' ∧ Below B w w' ∧ BKeep b w w' := by
  rcases h with h | h
  · refine (check_fresh b w h.cell0 h.shape h.frozen0).mono fun e w' ⟨h1, h2⟩ => ⟨h1, h2 ▸ h.used _, h2 ▸ (Below.refl B w).setCell (p := ⟨b, 0, none⟩) h.1 _, ?_⟩
    subst h2
    obtain ⟨hB, v, hbk, hown, hne⟩ := h
    intro X hX hl hr
    refine ⟨Below.heap_setCell _ _ _ _ hX, fun p v' T f e => ?_, by rw [World.size_setCell]; exact hl⟩
    rw [heap_setCell_at hbk] at e
    have e2 := Option.some.inj e
    injection e2 with e3 e4
    have e5 : v' = v := by
      have := congrArg (fun a => a.toList) e3
      simp at this
      exact this.2.symm
    subst e5
    exact hr _ _ _ _ hbk
  · exact (check_used b w h.cell0).mono fun e w' ⟨h1, h2⟩ => ⟨h1, h2 ▸ h, h2 ▸ Below.refl B _, h2 ▸ BKeep.refl b _⟩

set_option maxHeartbeats 1000000 in
set_option maxRecDepth 100000 in
theorem bwrite_x (B b : Nat) (l : List UInt8) (s : ByteArray) (w : World) (h : Lib.IsBuilder 111 5 B b (bytesOf l) w) (hlen : l.length + s.size ≤ 140737488355328) (hBw : B ≤ w.heap.size) :
    Calls Try.prog 62 #[.pointer (some ⟨b, 0, none⟩), .string s] w fun e w' => e = .returned (.tuple #[.int .i64 s.size, .nilIface]) ∧
      Lib.IsBuilder 111 5 B b (bytesOf (l ++ s.data.toList)) w' ∧ Below B w w' ∧ BKeep b w w' := by
  obtain ⟨i0, hi, hz0, hz1, hz2⟩ := info_parts info_u8b
  have HC := Lib.hid (bcheck_x B b (bytesOf l) w h)
  have HL := Lib.hid hlen
  clear h hlen
  go_enter Try.func62, Try.ntmps62
  go_wp2_with fail
  refine HC.out.mono ?_
  rintro e w1 ⟨rfl, hb1, hbl, hbk1⟩
  obtain ⟨hB, v, hbk, hown, hne⟩ := hb1
  have hlt := (Array.getElem?_eq_some_iff.1 hbk).1
  rw [bytesOf_length] at hown
  obtain ⟨a, c, rfl, -, -⟩ := ownsRow_shape hown
  obtain ⟨v', w2, hrun, hown', hgrow, hnew⟩ := append_own_src (P := Try.prog) w1 B 49 9 49 5 i0 _ 1 1 Try.underlying49 hi hz0 hz1 hz2 rfl _ _ _ hown (.string s) s.size (byteCells s) (Src.ofString w1 Try.underlying9 s)
    (by rw [maxLen_eq]; have := HL.out; omega) (by have := HL.out; omega) (Nat.le_trans hBw hbl.size)
  obtain ⟨a', c', rfl, -, -⟩ := ownsRow_shape hown'
  have hb2 : w2.heap[b]? = _ := (hgrow.block b hlt (fun e => hne e.symm)).trans hbk
  have h1 : w1.cell? ⟨b, 1, none⟩ = some (.slice a l.length c) := cell_at hbk
  have h2 : w2.cell? ⟨b, 1, none⟩ = some (.slice a l.length c) := cell_at hb2
  have h3 : w2.frozen? ⟨b, 1, none⟩ = false := free_at hb2
  have hne' : (Value.slice a' (l.length + s.size) c').ownBlock ≠ some b := by
    rcases hnew with e | e
    · rw [e]; exact hne
    · rw [e]; intro e'; cases e'; exact absurd hlt (Nat.lt_irrefl _)
  have hkp : BKeep b w (w2.setCell ⟨b, 1, none⟩ (.slice a' (l.length + s.size) c')) := by
    refine hbk1.trans fun X hX hl hr => ?_
    have hrX := hr _ _ _ _ hbk
    refine ⟨(Below.heap_setCell _ _ _ _ hX).trans (hgrow.block X hl (fun e => hrX e.symm)), fun p v T f e => ?_, by rw [World.size_setCell]; exact Nat.lt_of_lt_of_le hl hgrow.size⟩
    rw [heap_setCell_at hb2] at e
    have e2 := Option.some.inj e
    injection e2 with e3 e4
    have e5 : v = .slice a' (l.length + s.size) c' := by
      have := congrArg (fun a => a.toList) e3
      simp at this
      exact this.2.symm
    subst e5
    rcases hnew with e | e
    · rw [e]; exact hrX
    · rw [e]; intro e'; cases e'; exact absurd hl (Nat.lt_irrefl _)
  have hfin : Lib.IsBuilder 111 5 B b (bytesOf (l ++ s.data.toList)) (w2.setCell ⟨b, 1, none⟩ (.slice a' (l.length + s.size) c')) ∧ Below B w (w2.setCell ⟨b, 1, none⟩ (.slice a' (l.length + s.size) c')) ∧ BKeep b w (w2.setCell ⟨b, 1, none⟩ (.slice a' (l.length + s.size) c')) := by
    refine ⟨.inr ⟨hB, _, heap_setCell_at hb2, ?_, hne'⟩, (hbl.grown hgrow (Nat.le_trans hBw hbl.size) (fun k e => (hown.lt k e).1)).setCell (p := ⟨b, 1, none⟩) hB _, hkp⟩
    rw [bytesOf_length, List.length_append, data_len, bytesOf_append, ← byteCells_eq]
    exact ownsRow_of_block hown' fun k e => Below.heap_setCell _ _ _ _ (fun e' => hne' (by rw [e, e']))
  have HF := Lib.hid hfin
  have HR := Lib.hid hrun
  clear hfin hrun hown' hgrow hnew hbk hb2 hne hne' hown hi hz0 hz1 hz2 hkp hbk1
  go_wp2_with (at_builtin; refine wpList_append_run rfl (.tmp 12) (.tmp 13) 49 9 rfl rfl rfl HR.out ?_)
  go_ret2
  exact ⟨rfl, HF.out⟩
/-- A block that is made behind the builder isn't the builder's row. -/
theorem rowNot_new {T e B b : Nat} {bs : List Value} {w : World} {X : Nat} (h : Lib.IsBuilder T e B b bs w) (hX : w.heap.size ≤ X) : RowNot b X w := by
  intro p v T' f e' hv
  have key : ∀ q, Lib.BuilderAt T e B b q bs w → False := by
    rintro q ⟨-, v', hbk, hown, -⟩
    rw [hbk] at e'
    have e2 := Option.some.inj e'
    injection e2 with e3 e4
    have e5 : v' = v := by
      have := congrArg (fun a => a.toList) e3
      simp at this
      exact this.2
    subst e5
    have := (hown.lt X hv).2
    omega
  rcases h with h | h
  · exact key _ h
  · exact key _ h
theorem rowNot_new' {T e B b : Nat} {bs : List Value} {w w' : World} {X : Nat} (h : Lib.IsBuilder T e B b bs w) (hb : Below w.heap.size w w') (hX : w.heap.size ≤ X) (hlt : b < w.heap.size) : RowNot b X w' := fun p v T' f e =>
  rowNot_new h hX p v T' f (by rw [← hb.block b hlt]; exact e)
end Go.Proofs.Ytaooibocknemkaa
end

section
/-
  vint.Put, counted, sized; a builder's parts. Conditions: those of each theorem.
-/
namespace Go.Proofs.Ytaooibocknemkaa
open Go.RowKit Go.BigFrame
set_option linter.unusedVariables false
set_option linter.unusedSimpArgs false

def SIs (l : List UInt8) (w : World) (e : Ending) (w' : World) : Prop := e = .returned (.string (bL l)) ∧ Below w.heap.size w w'
theorem oput_any (n k : Nat) (hn : n < 18446744073709551616) (hk : okSize k) (w : World) : Calls Try.prog 24 #[.int .u64 n, .int .i64 k] w (SIs (leB n k) w) := put_any n k hn hk w
set_option maxHeartbeats 1000000 in
theorem vput_any (n : Nat) (hn : n < 18446744073709551616) (w : World) : Calls Try.prog 35 #[.int .u64 n] w (SIs (vintL n) w) := by
  have s1 : ∀ m, (bL (leB m 1)).size = 1 := fun m => by rw [bL_size, leB_length]
  have s2 : ∀ m, (bL (leB m 2)).size = 2 := fun m => by rw [bL_size, leB_length]
  have s4 : ∀ m, (bL (leB m 4)).size = 4 := fun m => by rw [bL_size, leB_length]
  have s8 : ∀ m, (bL (leB m 8)).size = 8 := fun m => by rw [bL_size, leB_length]
  by_cases h1 : n < 253
  · have hz : (n : Int) < 253 := by omega
    have HF := Lib.hid (show vintL n = leB n 1 by unfold vintL; rw [if_pos h1])
    clear h1
    go_enter Try.func35, Try.ntmps35
    go_wp2_with fail
    refine (oput_any n 1 hn (.inl rfl) w).mono ?_
    rintro e w1 ⟨rfl, hb⟩
    go_wp2_with fail
    go_ret
    exact ⟨by rw [HF.out]; rfl, hb⟩
  · have hz1 : ¬ (n : Int) < 253 := by omega
    by_cases h2 : n < 65536
    · have hz : (n : Int) < 65536 := by omega
      have HF := Lib.hid (show vintL n = leB 253 1 ++ leB n 2 by unfold vintL; rw [if_neg h1, if_pos h2])
      clear h1 h2
      go_enter Try.func35, Try.ntmps35
      go_wp2_with fail
      refine (oput_any 253 1 (by omega) (.inl rfl) w).mono ?_
      rintro e w1 ⟨rfl, hb⟩
      have HB := Lib.hid hb
      clear hb
      go_wp2_with fail
      refine (oput_any n 2 hn (.inr (.inl rfl)) w1).mono ?_
      rintro e w2 ⟨rfl, hb⟩
      have q1 := s1 253
      have q2 := s2 n
      go_wp2_with fail
      go_ret
      exact ⟨by rw [HF.out, ← bL_app]; rfl, HB.out.trans (hb.mono HB.out.size)⟩
    · have hz2 : ¬ (n : Int) < 65536 := by omega
      by_cases h3 : n < 4294967296
      · have hz : (n : Int) < 4294967296 := by omega
        have HF := Lib.hid (show vintL n = leB 254 1 ++ leB n 4 by unfold vintL; rw [if_neg h1, if_neg h2, if_pos h3])
        clear h1 h2 h3
        go_enter Try.func35, Try.ntmps35
        go_wp2_with fail
        refine (oput_any 254 1 (by omega) (.inl rfl) w).mono ?_
        rintro e w1 ⟨rfl, hb⟩
        have HB := Lib.hid hb
        clear hb
        go_wp2_with fail
        refine (oput_any n 4 hn (.inr (.inr (.inl rfl))) w1).mono ?_
        rintro e w2 ⟨rfl, hb⟩
        have q1 := s1 254
        have q2 := s4 n
        go_wp2_with fail
        go_ret
        exact ⟨by rw [HF.out, ← bL_app]; rfl, HB.out.trans (hb.mono HB.out.size)⟩
      · have hz : ¬ (n : Int) < 4294967296 := by omega
        have HF := Lib.hid (show vintL n = leB 255 1 ++ leB n 8 by unfold vintL; rw [if_neg h1, if_neg h2, if_neg h3])
        clear h1 h2 h3
        go_enter Try.func35, Try.ntmps35
        go_wp2_with fail
        refine (oput_any 255 1 (by omega) (.inl rfl) w).mono ?_
        rintro e w1 ⟨rfl, hb⟩
        have HB := Lib.hid hb
        clear hb
        go_wp2_with fail
        refine (oput_any n 8 hn (.inr (.inr (.inr rfl))) w1).mono ?_
        rintro e w2 ⟨rfl, hb⟩
        have q1 := s1 255
        have q2 := s8 n
        go_wp2_with fail
        go_ret
        exact ⟨by rw [HF.out, ← bL_app]; rfl, HB.out.trans (hb.mono HB.out.size)⟩
theorem counted_any (n : Nat) (hn : n ≤ 9223372036854775807) (w : World) : Calls Try.prog 63 #[.int .i64 n] w (SIs (vintL n) w) := by
  have hlo : (0 : Int) ≤ n := by omega
  have hhi : (n : Int) ≤ 9223372036854775807 := by omega
  go_enter Try.func63, Try.ntmps63
  go_wp2_with fail
  refine (vput_any n (by omega) w).mono ?_
  rintro e w1 ⟨rfl, hb⟩
  go_wp2_with fail
  go_ret
  exact ⟨rfl, hb⟩
theorem sized_any (s : ByteArray) (hs : s.size ≤ 1000000) (w : World) : Calls Try.prog 64 #[.string s] w (SIs (sizedL s) w) := by
  have q1 : (bL (vintL s.size)).size ≤ 9 := by rw [bL_size]; exact vintL_le _
  go_enter Try.func64, Try.ntmps64
  go_wp2_with fail
  refine (counted_any s.size (by omega) w).mono ?_
  rintro e w1 ⟨rfl, hb⟩
  go_wp2_with fail
  go_ret
  exact ⟨by unfold sizedL; rw [← bL_app, bL_data]; rfl, hb⟩
/-- A builder has one part more. -/
def BPut (B b : Nat) (l : List UInt8) (w : World) (w' : World) : Prop := Lib.IsBuilder 111 5 B b (bytesOf l) w' ∧ Below B w w' ∧ BKeep b w w'
theorem eput_any (B b n k : Nat) (l : List UInt8) (hn : n < 18446744073709551616) (hk : okSize k) (w : World) (h : Lib.IsBuilder 111 5 B b (bytesOf l) w) (hl : l.length ≤ 1000000) (hB : B ≤ w.heap.size) :
    Calls Try.prog 61 #[.int .u64 n, .int .i64 k, .pointer (some ⟨b, 0, none⟩)] w fun e w' => (∃ v, e = .returned v) ∧ BPut B b (l ++ leB n k) w w' := by
  have HI := Lib.hid h
  have HBB := Lib.hid hB
  have hk8 : k ≤ 8 := by unfold okSize at hk; omega
  clear h hB
  go_enter Try.func61, Try.ntmps61
  go_wp2_with fail
  refine (oput_any n k hn hk w).mono ?_
  rintro e w1 ⟨rfl, hb⟩
  go_wp2_with fail
  refine (bwrite_x B b l (bL (leB n k)) w1 (isb_later HI.out hb) (by rw [bL_size, leB_length]; omega) (Nat.le_trans HBB.out hb.size)).mono ?_
  rintro e w2 ⟨rfl, hi, hb2, hk2⟩
  rw [bL_list] at hi
  have HF := Lib.hid (show BPut B b (l ++ leB n k) w w2 from ⟨hi, (hb.mono HBB.out).trans hb2, (BKeep.of_below hb (isb_lt HI.out).2).trans hk2⟩)
  clear hi hb hb2 hk2
  go_wp2_with fail
  exact bodyPost_end (v := .tuple #[]) (by kernel_rfl) rfl ⟨⟨_, rfl⟩, HF.out⟩
end Go.Proofs.Ytaooibocknemkaa
end
