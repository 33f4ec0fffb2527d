/-
  ChildBuilds, part 5: the texts Ci, Cj, Cn, one after another. Conditions: none beyond those named at each.
-/
import Derived.Test.YtmakghcoehkphaaQ4ChildBuilds
import Derived.BigRegion
section
/-
  The law's own inputs: an anchor and a point of a Raw. Conditions: the numbers are ones of their kinds.
-/
namespace Go.Proofs.Ytmakghcoehkphaa
open Go.RowKit Go.BigFrame
set_option linter.unusedVariables false
set_option linter.unusedSimpArgs false

theorem cap_ex (s : ByteArray) (m : Nat) (h : m = min s.size 40) : s.extract 0 m = capB 40 s := by
  unfold capB
  split
  · rw [h, show min s.size 40 = 40 by omega]
  · rw [h, show min s.size 40 = s.size by omega]
    apply ByteArray.ext
    simp
structure PRaw where
  a : PCl
  pid : ByteArray
  pidx : Nat
  val : Int
  tag : Nat
  fee : Int
  odd : Bool
structure PRaw.Ok (z : PRaw) : Prop where
  a : z.a.Ok
  pid : z.pid.size ≤ maxLen
  pidx : z.pidx < 4294967296
  val : -9223372036854775808 ≤ z.val ∧ z.val ≤ 9223372036854775807
  tag : z.tag < 65536
  fee : -9223372036854775808 ≤ z.fee ∧ z.fee ≤ 9223372036854775807
def rawCells (z : PRaw) : Array Value := #[.string z.a.id, .int .u32 z.a.idx, .int .i64 z.a.val, .int .i64 z.a.br, .int .u16 z.a.lock.tag, .int .u16 z.a.lock.delay, .int .u32 z.a.lock.height, .int .i64 z.a.dead, .string z.pid, .int .u32 z.pidx, .int .i64 z.val, .int .u16 z.tag, .int .i64 z.fee, .bool z.odd]
def ofA (z : PRaw) : PCl := ⟨if z.odd then capB 40 z.a.id else idB 1, z.a.idx, z.a.val, z.a.br, z.a.lock, z.a.dead⟩
def ofP (z : PRaw) : ByteArray := if z.odd then capB 40 z.pid else idB 2
theorem capB_len {n : Nat} {s : ByteArray} (h : s.size ≤ maxLen) : (capB n s).size ≤ maxLen := by
  unfold capB
  split
  · simp only [ByteArray.size_extract]; omega
  · exact h
theorem ofA_len {z : PRaw} (h : z.Ok) : (ofA z).id.size ≤ maxLen := by
  unfold ofA
  dsimp only
  split
  · exact capB_len h.a.id
  · rw [idB_size]; decide
theorem ofP_len {z : PRaw} (h : z.Ok) : (ofP z).size ≤ maxLen := by
  unfold ofP
  split
  · exact capB_len h.pid
  · rw [idB_size]; decide
def RO (X : Nat) (z : PRaw) : Nat → Fact
  | 0 => .val fun _ => .pointer (some ⟨X, 0, none⟩)
  | 1 => .val fun _ => clV z.a
  | 2 => .val fun _ => .pointer (some ⟨X, 8, none⟩)
  | 3 => .val fun _ => .agg #[.string z.pid, .int .u32 z.pidx]
  | 4 => .box fun _ => .cells #[.string ⟨#[]⟩, .int .u32 0, .int .i64 0, .int .i64 0, .int .u16 0, .int .u16 0, .int .u32 0, .int .i64 0] 29 (0, 0)
  | 5 => .box fun _ => .cells #[.string ⟨#[]⟩, .int .u32 0] 24 (0, 0)
  | _ => .any
theorem set_two {w w1 : World} {P Y : Nat} {a y : Value} {xs ys : List Value} {t u : TypeId} (gP : w1.heap[P]? = some (.cells (a :: xs).toArray t (0, 0))) (gY : w1.heap[Y]? = some (.cells (y :: ys).toArray u (0, 0))) (hne : P ≠ Y) (hb : Below w.heap.size w w1) (hP : w.heap.size ≤ P) (hY : w.heap.size ≤ Y) (a' y' : Value) :
    Below w.heap.size w ((w1.setCell ⟨P, 0, none⟩ a').setCell ⟨Y, 0, none⟩ y') ∧ (∀ b, b ≠ P → b ≠ Y → ((w1.setCell ⟨P, 0, none⟩ a').setCell ⟨Y, 0, none⟩ y').heap[b]? = w1.heap[b]?) ∧
      ((w1.setCell ⟨P, 0, none⟩ a').setCell ⟨Y, 0, none⟩ y').heap[P]? = some (.cells (a' :: xs).toArray t (0, 0)) ∧ ((w1.setCell ⟨P, 0, none⟩ a').setCell ⟨Y, 0, none⟩ y').heap[Y]? = some (.cells (y' :: ys).toArray u (0, 0)) := by
  have h1 := heap_setCell_at (j := 0) (u := a') gP
  have h2 : (w1.setCell ⟨P, 0, none⟩ a').heap[Y]? = _ := (Below.heap_setCell _ _ _ _ (Ne.symm hne)).trans gY
  have h3 := heap_setCell_at (j := 0) (u := y') h2
  refine ⟨(hb.setCell (p := ⟨P, 0, none⟩) hP a').setCell (p := ⟨Y, 0, none⟩) hY y', fun b b1 b2 => ?_, ?_, ?_⟩
  · rw [Below.heap_setCell _ _ _ _ b2, Below.heap_setCell _ _ _ _ b1]
  · rw [Below.heap_setCell _ _ _ _ hne, h1]; simp
  · rw [h3]; simp
set_option maxRecDepth 100000 in
set_option maxHeartbeats 4000000 in
theorem of_any (z : PRaw) (w : World) : Calls Try.prog 7 #[.agg (rawCells z)] w fun e w' => e = .returned (.tuple #[clV (ofA z), .agg #[.string (ofP z), .int .u32 z.pidx]]) ∧ Below w.heap.size w w' := by
  obtain ⟨od, hod⟩ : ∃ b, b = z.odd := ⟨_, rfl⟩
  have HOD := Lib.hid hod
  unfold rawCells
  rw [← hod]
  clear hod
  go_enter Try.func7, Try.ntmps7
  go_upto_region 1 with fail
  obtain ⟨X, hX⟩ : ∃ q, q = w.heap.size := ⟨_, rfl⟩
  have hnews := new3 w X hX (.cells #[.string z.a.id, .int .u32 z.a.idx, .int .i64 z.a.val, .int .i64 z.a.br, .int .u16 z.a.lock.tag, .int .u16 z.a.lock.delay, .int .u32 z.a.lock.height, .int .i64 z.a.dead, .string z.pid, .int .u32 z.pidx, .int .i64 z.val, .int .u16 z.tag, .int .i64 z.fee, .bool od] 31) (.cells #[.string ⟨#[]⟩, .int .u32 0, .int .i64 0, .int .i64 0, .int .u16 0, .int .u16 0, .int .u32 0, .int .i64 0] 29) (.cells #[.string ⟨#[]⟩, .int .u32 0] 24)
  rw [← hX]
  generalize (((w.alloc (.cells #[.string z.a.id, .int .u32 z.a.idx, .int .i64 z.a.val, .int .i64 z.a.br, .int .u16 z.a.lock.tag, .int .u16 z.a.lock.delay, .int .u32 z.a.lock.height, .int .i64 z.a.dead, .string z.pid, .int .u32 z.pidx, .int .i64 z.val, .int .u16 z.tag, .int .i64 z.fee, .bool od] 31)).alloc (.cells #[.string ⟨#[]⟩, .int .u32 0, .int .i64 0, .int .i64 0, .int .u16 0, .int .u16 0, .int .u32 0, .int .i64 0] 29)).alloc (.cells #[.string ⟨#[]⟩, .int .u32 0] 24)) = w0 at *
  obtain ⟨hz0, hz1, hz2, hal⟩ := hnews
  have hX1 : w.heap.size ≤ X := by omega
  have HB0 := Lib.hid hal
  have HZ0 := Lib.hid hz0
  have HZ1 := Lib.hid hz1
  have HZ2 := Lib.hid hz2
  have hl2 := lt_of hz2
  have z0 : w0.cell? ⟨X, 0, none⟩ = some (.string z.a.id) := cell_at hz0
  have z1 : w0.cell? ⟨X, 1, none⟩ = some (.int .u32 z.a.idx) := cell_at hz0
  have z2 : w0.cell? ⟨X, 2, none⟩ = some (.int .i64 z.a.val) := cell_at hz0
  have z3 : w0.cell? ⟨X, 3, none⟩ = some (.int .i64 z.a.br) := cell_at hz0
  have z4 : w0.cell? ⟨X, 4, none⟩ = some (.int .u16 z.a.lock.tag) := cell_at hz0
  have z5 : w0.cell? ⟨X, 5, none⟩ = some (.int .u16 z.a.lock.delay) := cell_at hz0
  have z6 : w0.cell? ⟨X, 6, none⟩ = some (.int .u32 z.a.lock.height) := cell_at hz0
  have z7 : w0.cell? ⟨X, 7, none⟩ = some (.int .i64 z.a.dead) := cell_at hz0
  have z8 : w0.cell? ⟨X, 8, none⟩ = some (.string z.pid) := cell_at hz0
  have z9 : w0.cell? ⟨X, 9, none⟩ = some (.int .u32 z.pidx) := cell_at hz0
  clear hz0 hz1 hz2 hal hX
  go_cut [4, 5] (fun s4 s5 wx => ∃ P Y, s4 = .pointer (some ⟨P, 0, none⟩) ∧ s5 = .pointer (some ⟨Y, 0, none⟩) ∧ X + 1 + 1 < P ∧ X + 1 + 1 < Y ∧ P ≠ Y ∧ Below w0.heap.size w0 wx ∧ wx.heap[P]? = some (.cells #[.string z.a.id, .int .u32 z.a.idx, .int .i64 z.a.val, .int .i64 z.a.br, .int .u16 z.a.lock.tag, .int .u16 z.a.lock.delay, .int .u32 z.a.lock.height, .int .i64 z.a.dead] 29 (0, 0)) ∧ wx.heap[Y]? = some (.cells #[.string z.pid, .int .u32 z.pidx] 24 (0, 0)))
  case first =>
    have k0 : ∀ o, (w0.alloc o).cell? ⟨X, 0, none⟩ = some (.string z.a.id) := fun o => cell_over z0 o
    have j0 : ∀ o o', ((w0.alloc o).alloc o').cell? ⟨X, 0, none⟩ = some (.string z.a.id) := fun o o' => cell_over (k0 o) o'
    have k1 : ∀ o, (w0.alloc o).cell? ⟨X, 1, none⟩ = some (.int .u32 z.a.idx) := fun o => cell_over z1 o
    have j1 : ∀ o o', ((w0.alloc o).alloc o').cell? ⟨X, 1, none⟩ = some (.int .u32 z.a.idx) := fun o o' => cell_over (k1 o) o'
    have k2 : ∀ o, (w0.alloc o).cell? ⟨X, 2, none⟩ = some (.int .i64 z.a.val) := fun o => cell_over z2 o
    have j2 : ∀ o o', ((w0.alloc o).alloc o').cell? ⟨X, 2, none⟩ = some (.int .i64 z.a.val) := fun o o' => cell_over (k2 o) o'
    have k3 : ∀ o, (w0.alloc o).cell? ⟨X, 3, none⟩ = some (.int .i64 z.a.br) := fun o => cell_over z3 o
    have j3 : ∀ o o', ((w0.alloc o).alloc o').cell? ⟨X, 3, none⟩ = some (.int .i64 z.a.br) := fun o o' => cell_over (k3 o) o'
    have k4 : ∀ o, (w0.alloc o).cell? ⟨X, 4, none⟩ = some (.int .u16 z.a.lock.tag) := fun o => cell_over z4 o
    have j4 : ∀ o o', ((w0.alloc o).alloc o').cell? ⟨X, 4, none⟩ = some (.int .u16 z.a.lock.tag) := fun o o' => cell_over (k4 o) o'
    have k5 : ∀ o, (w0.alloc o).cell? ⟨X, 5, none⟩ = some (.int .u16 z.a.lock.delay) := fun o => cell_over z5 o
    have j5 : ∀ o o', ((w0.alloc o).alloc o').cell? ⟨X, 5, none⟩ = some (.int .u16 z.a.lock.delay) := fun o o' => cell_over (k5 o) o'
    have k6 : ∀ o, (w0.alloc o).cell? ⟨X, 6, none⟩ = some (.int .u32 z.a.lock.height) := fun o => cell_over z6 o
    have j6 : ∀ o o', ((w0.alloc o).alloc o').cell? ⟨X, 6, none⟩ = some (.int .u32 z.a.lock.height) := fun o o' => cell_over (k6 o) o'
    have k7 : ∀ o, (w0.alloc o).cell? ⟨X, 7, none⟩ = some (.int .i64 z.a.dead) := fun o => cell_over z7 o
    have j7 : ∀ o o', ((w0.alloc o).alloc o').cell? ⟨X, 7, none⟩ = some (.int .i64 z.a.dead) := fun o o' => cell_over (k7 o) o'
    have k8 : ∀ o, (w0.alloc o).cell? ⟨X, 8, none⟩ = some (.string z.pid) := fun o => cell_over z8 o
    have j8 : ∀ o o', ((w0.alloc o).alloc o').cell? ⟨X, 8, none⟩ = some (.string z.pid) := fun o o' => cell_over (k8 o) o'
    have k9 : ∀ o, (w0.alloc o).cell? ⟨X, 9, none⟩ = some (.int .u32 z.pidx) := fun o => cell_over z9 o
    have j9 : ∀ o o', ((w0.alloc o).alloc o').cell? ⟨X, 9, none⟩ = some (.int .u32 z.pidx) := fun o o' => cell_over (k9 o) o'
    go_region
    · go_wp2_with fail
      go_meet
      obtain ⟨n1, n2, n3⟩ := new2 w0 _ rfl (.cells #[.string z.a.id, .int .u32 z.a.idx, .int .i64 z.a.val, .int .i64 z.a.br, .int .u16 z.a.lock.tag, .int .u16 z.a.lock.delay, .int .u32 z.a.lock.height, .int .i64 z.a.dead] 29) (.cells #[.string z.pid, .int .u32 z.pidx] 24)
      exact ⟨_, _, rfl, rfl, by omega, by omega, by omega, n3.drew, n1, n2⟩
    · go_wp2_with fail
      go_meet
      obtain ⟨n1, n2, n3⟩ := new2 w0 _ rfl (.cells #[.string z.pid, .int .u32 z.pidx] 24) (.cells #[.string z.a.id, .int .u32 z.a.idx, .int .i64 z.a.val, .int .i64 z.a.br, .int .u16 z.a.lock.tag, .int .u16 z.a.lock.delay, .int .u32 z.a.lock.height, .int .i64 z.a.dead] 29)
      exact ⟨_, _, rfl, rfl, by omega, by omega, by omega, n3.drew, n2, n1⟩
  case rest =>
    rename World => w1
    obtain ⟨P, Y, rfl, rfl, hP, hY, hPY, hbel, gP, gY⟩ := hcut
    have HB1 := Lib.hid (HB0.out.trans (hbel.mono HB0.out.size))
    have HZ0 := Lib.hid (stay HZ0.out hbel)
    have HZ1 := Lib.hid (stay HZ1.out hbel)
    have HZ2 := Lib.hid (stay HZ2.out hbel)
    have p0 : w1.cell? ⟨P, 0, none⟩ = some (.string z.a.id) := cell_at gP
    have y0 : w1.cell? ⟨Y, 0, none⟩ = some (.string z.pid) := cell_at gY
    have fp0 : w1.frozen? ⟨P, 0, none⟩ = false := free_at gP
    have fy0 : w1.frozen? ⟨Y, 0, none⟩ = false := free_at gY
    have HGP := Lib.hid gP
    have HGY := Lib.hid gY
    obtain ⟨m1, hm1⟩ : ∃ m, m = min z.a.id.size 40 := ⟨_, rfl⟩
    have hi1 : min (z.a.id.size : Int) 40 = (m1 : Int) := by omega
    have hle1 : m1 ≤ z.a.id.size := by omega
    obtain ⟨m2, hm2⟩ : ∃ m, m = min z.pid.size 40 := ⟨_, rfl⟩
    have hi2 : min (z.pid.size : Int) 40 = (m2 : Int) := by omega
    have hle2 : m2 ≤ z.pid.size := by omega
    have HM1 := Lib.hid (cap_ex _ _ hm1)
    have HM2 := Lib.hid (cap_ex _ _ hm2)
    clear hm1 hm2 gP gY hbel HB0 z0 z1 z2 z3 z4 z5 z6 z7 z8 z9
    go_upto_region 2 with fail
    go_cut [] (fun wx => Below w.heap.size w wx ∧ (∀ b, b ≠ P → b ≠ Y → wx.heap[b]? = w1.heap[b]?) ∧ wx.heap[P]? = some (.cells #[.string (capB 40 z.a.id), .int .u32 z.a.idx, .int .i64 z.a.val, .int .i64 z.a.br, .int .u16 z.a.lock.tag, .int .u16 z.a.lock.delay, .int .u32 z.a.lock.height, .int .i64 z.a.dead] 29 (0, 0)) ∧ wx.heap[Y]? = some (.cells #[.string (capB 40 z.pid), .int .u32 z.pidx] 24 (0, 0)))
    case first =>
      go_region
      go_wp2_with fail
      go_meet
      rw [HM1.out, HM2.out]
      have h2 := set_two HGP.out HGY.out hPY HB1.out (by omega) (by omega) (.string (capB 40 z.a.id)) (.string (capB 40 z.pid))
      exact ⟨h2.1.drew, h2.2.1, h2.2.2.1, h2.2.2.2⟩
    case rest =>
      rename World => w2
      obtain ⟨hB2, hO, gP, gY⟩ := hcut
      have HB2 := Lib.hid hB2
      have HZ0 := Lib.hid ((hO X (by omega) (by omega)).trans HZ0.out)
      have HZ1 := Lib.hid ((hO (X + 1) (by omega) (by omega)).trans HZ1.out)
      have HZ2 := Lib.hid ((hO (X + 1 + 1) (by omega) (by omega)).trans HZ2.out)
      have c13 : w2.cell? ⟨X, 13, none⟩ = some (.bool od) := cell_at HZ0.out
      have HGP := Lib.hid gP
      have HGY := Lib.hid gY
      have hlP := lt_of gP
      have hlY := lt_of gY
      have hlX := lt_of HZ2.out
      clear hB2 hO gP gY p0 y0 fp0 fy0 HM1 HM2 hi1 hi2 hle1 hle2 HB1
      go_upto_if 31 with fail
      go_cut [] (fun wx => Below w.heap.size w wx ∧ (∀ b, b < w2.heap.size → b ≠ P → b ≠ Y → wx.heap[b]? = w2.heap[b]?) ∧ wx.heap[P]? = some (.cells #[.string ((ofA z).id), .int .u32 z.a.idx, .int .i64 z.a.val, .int .i64 z.a.br, .int .u16 z.a.lock.tag, .int .u16 z.a.lock.delay, .int .u32 z.a.lock.height, .int .i64 z.a.dead] 29 (0, 0)) ∧ wx.heap[Y]? = some (.cells #[.string (ofP z), .int .u32 z.pidx] 24 (0, 0)))
      case first =>
        cases od
        · have HI := Lib.hid (show (ofA z).id = idB 1 by unfold ofA; rw [← HOD.out]; rfl)
          have HJ := Lib.hid (show ofP z = idB 2 by unfold ofP; rw [← HOD.out]; rfl)
          go_wp2_with fail
          refine (id_any 1 w2).mono ?_
          rintro e w3 ⟨rfl, hb⟩
          have HB3 := Lib.hid hb
          clear hb c13
          go_wp2_with fail
          refine (id_any 2 w3).mono ?_
          rintro e w4 ⟨rfl, hb⟩
          have hb4 := HB3.out.trans (hb.mono HB3.out.size)
          have HB4 := Lib.hid hb4
          have g4 := stay HGP.out hb4
          have g5 := stay HGY.out hb4
          have HGP4 := Lib.hid g4
          have HGY4 := Lib.hid g5
          have p0 : w4.cell? ⟨P, 0, none⟩ = some (.string (capB 40 z.a.id)) := cell_at g4
          have y0 : w4.cell? ⟨Y, 0, none⟩ = some (.string (capB 40 z.pid)) := cell_at g5
          have fp0 : w4.frozen? ⟨P, 0, none⟩ = false := free_at g4
          have fy0 : w4.frozen? ⟨Y, 0, none⟩ = false := free_at g5
          clear hb hb4 g4 g5 HB3
          go_wp2_with fail
          go_meet
          rw [HI.out, HJ.out]
          have h2 := set_two HGP4.out HGY4.out hPY (HB2.out.trans (HB4.out.mono HB2.out.size)) (by omega) (by omega) (.string (idB 1)) (.string (idB 2))
          exact ⟨h2.1, fun b hb hP hY => (h2.2.1 b hP hY).trans (HB4.out.block b hb), h2.2.2.1, h2.2.2.2⟩
        · have HI := Lib.hid (show (ofA z).id = capB 40 z.a.id by unfold ofA; rw [← HOD.out]; rfl)
          have HJ := Lib.hid (show ofP z = capB 40 z.pid by unfold ofP; rw [← HOD.out]; rfl)
          go_wp2_with fail
          go_meet
          rw [HI.out, HJ.out]
          exact ⟨HB2.out, fun b _ _ _ => rfl, HGP.out, HGY.out⟩
      case rest =>
        rename World => w5
        obtain ⟨hB5, hO, gP, gY⟩ := hcut
        have HB5 := Lib.hid hB5
        have hr1 := (hO (X + 1) (by omega) (by omega) (by omega)).trans HZ1.out
        have hr2 := (hO (X + 1 + 1) (by omega) (by omega) (by omega)).trans HZ2.out
        have HR1 := Lib.hid hr1
        have HR2 := Lib.hid hr2
        obtain ⟨sa, hsa⟩ : ∃ s, s = (ofA z).id := ⟨_, rfl⟩
        obtain ⟨sp, hsp⟩ : ∃ s, s = ofP z := ⟨_, rfl⟩
        rw [← hsa] at gP
        rw [← hsp] at gY
        have HSA := Lib.hid hsa
        have HSP := Lib.hid hsp
        have p0 : w5.cell? ⟨P, 0, none⟩ = some (.string sa) := cell_at gP
        have p1 : w5.cell? ⟨P, 1, none⟩ = some (.int .u32 z.a.idx) := cell_at gP
        have p2 : w5.cell? ⟨P, 2, none⟩ = some (.int .i64 z.a.val) := cell_at gP
        have p3 : w5.cell? ⟨P, 3, none⟩ = some (.int .i64 z.a.br) := cell_at gP
        have p4 : w5.cell? ⟨P, 4, none⟩ = some (.int .u16 z.a.lock.tag) := cell_at gP
        have p5 : w5.cell? ⟨P, 5, none⟩ = some (.int .u16 z.a.lock.delay) := cell_at gP
        have p6 : w5.cell? ⟨P, 6, none⟩ = some (.int .u32 z.a.lock.height) := cell_at gP
        have p7 : w5.cell? ⟨P, 7, none⟩ = some (.int .i64 z.a.dead) := cell_at gP
        have y0 : w5.cell? ⟨Y, 0, none⟩ = some (.string sp) := cell_at gY
        have y1 : w5.cell? ⟨Y, 1, none⟩ = some (.int .u32 z.pidx) := cell_at gY
        have r0 : w5.cell? ⟨X + 1, 0, none⟩ = some (.string ⟨#[]⟩) := cell_at hr1
        have r1 : w5.cell? ⟨X + 1, 1, none⟩ = some (.int .u32 0) := cell_at hr1
        have r2 : w5.cell? ⟨X + 1, 2, none⟩ = some (.int .i64 0) := cell_at hr1
        have r3 : w5.cell? ⟨X + 1, 3, none⟩ = some (.int .i64 0) := cell_at hr1
        have r4 : w5.cell? ⟨X + 1, 4, none⟩ = some (.int .u16 0) := cell_at hr1
        have r5 : w5.cell? ⟨X + 1, 5, none⟩ = some (.int .u16 0) := cell_at hr1
        have r6 : w5.cell? ⟨X + 1, 6, none⟩ = some (.int .u32 0) := cell_at hr1
        have r7 : w5.cell? ⟨X + 1, 7, none⟩ = some (.int .i64 0) := cell_at hr1
        have f0 : w5.frozen? ⟨X + 1, 0, none⟩ = false := free_at hr1
        have f1 : w5.frozen? ⟨X + 1, 1, none⟩ = false := free_at hr1
        have f2 : w5.frozen? ⟨X + 1, 2, none⟩ = false := free_at hr1
        have f3 : w5.frozen? ⟨X + 1, 3, none⟩ = false := free_at hr1
        have f4 : w5.frozen? ⟨X + 1, 4, none⟩ = false := free_at hr1
        have f5 : w5.frozen? ⟨X + 1, 5, none⟩ = false := free_at hr1
        have f6 : w5.frozen? ⟨X + 1, 6, none⟩ = false := free_at hr1
        have f7 : w5.frozen? ⟨X + 1, 7, none⟩ = false := free_at hr1
        have q0 : w5.cell? ⟨X + 1 + 1, 0, none⟩ = some (.string ⟨#[]⟩) := cell_at hr2
        have q1 : w5.cell? ⟨X + 1 + 1, 1, none⟩ = some (.int .u32 0) := cell_at hr2
        have e0 : w5.frozen? ⟨X + 1 + 1, 0, none⟩ = false := free_at hr2
        have e1 : w5.frozen? ⟨X + 1 + 1, 1, none⟩ = false := free_at hr2
        clear hB5 hO gP gY hr1 hr2 hsa hsp HB2
        go_upto_region 5 with fail
        go_region
        go_wp2_with fail
        exact bodyPost_ret (v := .tuple #[.agg #[.string sa, .int .u32 z.a.idx, .int .i64 z.a.val, .int .i64 z.a.br, .int .u16 z.a.lock.tag, .int .u16 z.a.lock.delay, .int .u32 z.a.lock.height, .int .i64 z.a.dead], .agg #[.string sp, .int .u32 z.pidx]]) (by simp [results, Try.results7, go_sem, r0, r1, r2, r3, r4, r5, r6, r7, q0, q1]) rfl ⟨by rw [HSA.out, HSP.out]; rfl, ((((((((((HB5.out.setCell (p := ⟨X + 1, 0, none⟩) (show w.heap.size ≤ X + 1 by omega) _).setCell (p := ⟨X + 1, 1, none⟩) (show w.heap.size ≤ X + 1 by omega) _).setCell (p := ⟨X + 1, 2, none⟩) (show w.heap.size ≤ X + 1 by omega) _).setCell (p := ⟨X + 1, 3, none⟩) (show w.heap.size ≤ X + 1 by omega) _).setCell (p := ⟨X + 1, 4, none⟩) (show w.heap.size ≤ X + 1 by omega) _).setCell (p := ⟨X + 1, 5, none⟩) (show w.heap.size ≤ X + 1 by omega) _).setCell (p := ⟨X + 1, 6, none⟩) (show w.heap.size ≤ X + 1 by omega) _).setCell (p := ⟨X + 1, 7, none⟩) (show w.heap.size ≤ X + 1 by omega) _).setCell (p := ⟨X + 1 + 1, 0, none⟩) (show w.heap.size ≤ X + 1 + 1 by omega) _).setCell (p := ⟨X + 1 + 1, 1, none⟩) (show w.heap.size ≤ X + 1 + 1 by omega) _).drew⟩
end Go.Proofs.Ytmakghcoehkphaa
end

section
/-
  The law's signs of life. Conditions: none.
-/
namespace Go.Proofs.Ytmakghcoehkphaa
open Go.RowKit Go.BigFrame
set_option linter.unusedVariables false
set_option linter.unusedSimpArgs false

def z0 : PRaw := ⟨⟨⟨#[]⟩, 0, 0, 0, ⟨0, 0, 0⟩, 0⟩, ⟨#[]⟩, 0, 0, 0, 0, false⟩
theorem of_zero (w : World) : Calls Try.prog 7 #[.agg #[.string ⟨#[]⟩, .int .u32 0, .int .i64 0, .int .i64 0, .int .u16 0, .int .u16 0, .int .u32 0, .int .i64 0, .string ⟨#[]⟩, .int .u32 0, .int .i64 0, .int .u16 0, .int .i64 0, .bool false]] w fun e w' =>
    e = .returned (.tuple #[.agg #[.string (idB 1), .int .u32 0, .int .i64 0, .int .i64 0, .int .u16 0, .int .u16 0, .int .u32 0, .int .i64 0], .agg #[.string (idB 2), .int .u32 0]]) ∧ Below w.heap.size w w' := of_any z0 w
theorem idB12 : idB 1 ≠ idB 2 := by decide +kernel
theorem idB1_base : isBase (idB 1) 0 = false := by decide +kernel
theorem idB2_base : isBase (idB 2) 0 = false := by decide +kernel
def wkA : PCl := ⟨idB 1, 0, 330, 0, ⟨0, 0, 0⟩, 0⟩
def wkTx : PTx := childTx wkA (idB 2) 0 7 830
theorem wkA_ok : wkA.Ok := ⟨by show (idB 1).size ≤ _; rw [idB_size]; decide, by show 0 < _; decide, by show (_ : Int) ≤ 330 ∧ (330 : Int) ≤ _; decide, by show (_ : Int) ≤ 0 ∧ (0 : Int) ≤ _; decide, ⟨by show 0 < _; decide, by show 0 < _; decide, by show 0 < _; decide⟩, by show (_ : Int) ≤ 0 ∧ (0 : Int) ≤ _; decide⟩
theorem wkTx_check : checkOf wkTx = 0 := child_check (idB_size _) (idB_size _) (show isBase (idB 1) 0 = false from idB1_base) idB2_base (fun e => idB12 (congrArg Prod.fst e)) (by decide)
theorem wk_of : childOf wkA (idB 2) 0 1000 7 500 = (wkTx, 0) := by
  unfold childOf
  rw [if_neg (by decide), if_neg (by decide), if_neg (by decide), if_neg (by decide)]
  have h : checkOf (childTx wkA (idB 2) 0 7 (wkA.val + 1000 - 500)) = 0 := wkTx_check
  rw [if_neg (by rw [h]; decide)]
  rfl
theorem wk_build (w : World) : Calls Try.prog 8 #[.agg #[.string (idB 1), .int .u32 0, .int .i64 330, .int .i64 0, .int .u16 0, .int .u16 0, .int .u32 0, .int .i64 0], .agg #[.string (idB 2), .int .u32 0, .int .i64 1000, .string ⟨#[]⟩, .int .i64 0], .int .u16 7, .int .i64 500] w (BuildIs (wkTx, 0) w) := by
  have h := cbuild_any wkA (idB 2) 0 1000 ⟨#[]⟩ 0 7 500 wkA_ok (by rw [idB_size]; decide) (by decide) (by decide) w
  rw [wk_of] at h
  exact h
theorem wk_bad (w : World) : Calls Try.prog 8 #[.agg #[.string (idB 1), .int .u32 0, .int .i64 330, .int .i64 0, .int .u16 0, .int .u16 0, .int .u32 0, .int .i64 0], .agg #[.string (idB 2), .int .u32 0, .int .i64 0, .string ⟨#[]⟩, .int .i64 0], .int .u16 0, .int .i64 0] w (BuildIs (noTx, 2) w) := by
  have h := cbuild_any wkA (idB 2) 0 0 ⟨#[]⟩ 0 0 0 wkA_ok (by rw [idB_size]; decide) (by decide) (by decide) w
  rw [child_bad (.inl rfl)] at h
  exact h
theorem wk_bid (w : World) : Calls Try.prog 12 #[.int .i64 5000, .int .i64 0, .int .i64 100] w (PBs (1065, 0) w) := by
  have h := cbid_any 5000 0 100 w
  rw [show bidE 5000 0 100 = (1065, 0) by decide] at h
  exact h
set_option maxRecDepth 100000 in
set_option maxHeartbeats 4000000 in
theorem wakes24_any (w : World) : Calls Try.prog 11 #[] w (BIs true w) := by
  have HW1 := Lib.hid of_zero
  have HW2 := Lib.hid wk_build
  have HW3 := Lib.hid wk_bad
  generalize idB 1 = i1 at *
  generalize idB 2 = i2 at *
  go_enter Try.func11, Try.ntmps11
  go_wp2_with fail
  refine (wk_bid w).mono ?_
  rintro e w1 ⟨rfl, hb⟩
  have HB1 := Lib.hid hb
  clear hb
  go_wp2_with fail
  refine (HW1.out w1).mono ?_
  rintro e w2 ⟨rfl, hb⟩
  have HB2 := Lib.hid (HB1.out.trans (hb.mono HB1.out.size))
  clear hb HB1
  go_upto_region 3 with fail
  obtain ⟨X, hX⟩ : ∃ q, q = w2.heap.size := ⟨_, rfl⟩
  have hnews := new2 w2 X hX (.cells #[.string i1, .int .u32 0, .int .i64 0, .int .i64 0, .int .u16 0, .int .u16 0, .int .u32 0, .int .i64 0] 29) (.cells #[.string i2, .int .u32 0] 24)
  rw [← hX]
  generalize ((w2.alloc (.cells #[.string i1, .int .u32 0, .int .i64 0, .int .i64 0, .int .u16 0, .int .u16 0, .int .u32 0, .int .i64 0] 29)).alloc (.cells #[.string i2, .int .u32 0] 24)) = w3 at *
  obtain ⟨hz0, hz1, hal⟩ := hnews
  have hX1 : w.heap.size ≤ X := by have := HB2.out.size; omega
  have HB3 := Lib.hid (HB2.out.trans (hal.mono HB2.out.size))
  have HZ0 := Lib.hid hz0
  have HZ1 := Lib.hid hz1
  have c2 : w3.cell? ⟨X, 2, none⟩ = some (.int .i64 0) := cell_at hz0
  have f2 : w3.frozen? ⟨X, 2, none⟩ = false := free_at hz0
  clear hz0 hz1 hal hX HB2 HW1
  go_upto_region 4 with fail
  have g0 := heap_setCell_at (j := 2) (u := .int .i64 330) HZ0.out
  have g1 : (w3.setCell ⟨X, 2, none⟩ (.int .i64 330)).heap[X + 1]? = _ := (Below.heap_setCell _ _ _ _ (by show X + 1 ≠ X; omega)).trans HZ1.out
  have HB4 := Lib.hid (HB3.out.setCell (p := ⟨X, 2, none⟩) hX1 (.int .i64 330))
  generalize w3.setCell ⟨X, 2, none⟩ (.int .i64 330) = w4 at *
  have c0 : w4.cell? ⟨X, 0, none⟩ = some (.string i1) := cell_at g0
  have c1 : w4.cell? ⟨X, 1, none⟩ = some (.int .u32 0) := cell_at g0
  have e2 : w4.cell? ⟨X, 2, none⟩ = some (.int .i64 330) := cell_at g0
  have c3 : w4.cell? ⟨X, 3, none⟩ = some (.int .i64 0) := cell_at g0
  have c4 : w4.cell? ⟨X, 4, none⟩ = some (.int .u16 0) := cell_at g0
  have c5 : w4.cell? ⟨X, 5, none⟩ = some (.int .u16 0) := cell_at g0
  have c6 : w4.cell? ⟨X, 6, none⟩ = some (.int .u32 0) := cell_at g0
  have c7 : w4.cell? ⟨X, 7, none⟩ = some (.int .i64 0) := cell_at g0
  have d0 : w4.cell? ⟨X + 1, 0, none⟩ = some (.string i2) := cell_at g1
  have d1 : w4.cell? ⟨X + 1, 1, none⟩ = some (.int .u32 0) := cell_at g1
  clear g0 g1 f2 c2 HB3 HZ0 HZ1
  go_wp2_with fail
  refine (HW2.out w4).mono ?_
  rintro e w5 ⟨v, rfl, htx, hb⟩
  have HB5 := Lib.hid (HB4.out.trans (hb.mono HB4.out.size))
  replace c0 := below_cells hb _ _ c0
  replace c1 := below_cells hb _ _ c1
  replace e2 := below_cells hb _ _ e2
  replace c3 := below_cells hb _ _ c3
  replace c4 := below_cells hb _ _ c4
  replace c5 := below_cells hb _ _ c5
  replace c6 := below_cells hb _ _ c6
  replace c7 := below_cells hb _ _ c7
  replace d0 := below_cells hb _ _ d0
  replace d1 := below_cells hb _ _ d1
  clear hb HB4 HW2
  obtain ⟨va, vo, rfl, ha, hob, -, -⟩ := htx.at
  obtain ⟨a1, n1, rfl, -, -⟩ := ha.shape
  obtain ⟨a2, n2, rfl, -, -⟩ := hob.shape
  obtain ⟨b, o, x, rfl, hx, -, q0, -⟩ := hob.outp (i := 0) (show 0 < 1 by decide)
  obtain rfl : (⟨830, scrT 7⟩ : POut) = x := Option.some.inj hx
  dsimp only at q0
  rw [show o + 0 * 2 = o by omega] at q0
  rw [show (wkTx, (0 : Int)).1.ver = 2 from rfl, show (wkTx, (0 : Int)).1.lock = 0 from rfl, show (wkTx, (0 : Int)).1.ins.length = 2 from rfl, show (wkTx, (0 : Int)).1.outs.length = 1 from rfl]
  clear ha hob hx
  go_upto_region 5 with fail
  have hz := heap_alloc_new w5 (.cells #[.int .u32 (2 : Nat), .slice a1 2 n1, .slice (some ⟨b, o, none⟩) 1 n2, .int .u32 (0 : Nat)] 43)
  have hal : Below w5.heap.size w5 (w5.alloc (.cells #[.int .u32 (2 : Nat), .slice a1 2 n1, .slice (some ⟨b, o, none⟩) 1 n2, .int .u32 (0 : Nat)] 43)) := (Below.refl _ _).alloc (Nat.le_refl _) _
  obtain ⟨T, hT⟩ : ∃ q, q = w5.heap.size := ⟨_, rfl⟩
  rw [← hT] at hz ⊢
  generalize w5.alloc (.cells #[.int .u32 (2 : Nat), .slice a1 2 n1, .slice (some ⟨b, o, none⟩) 1 n2, .int .u32 (0 : Nat)] 43) = w6 at *
  have t2 : w6.cell? ⟨T, 2, none⟩ = some (.slice (some ⟨b, o, none⟩) 1 n2) := cell_at hz
  have HB6 := Lib.hid (HB5.out.trans (hal.mono HB5.out.size))
  replace q0 := below_cells hal _ _ q0
  replace c0 := below_cells hal _ _ c0
  replace c1 := below_cells hal _ _ c1
  replace e2 := below_cells hal _ _ e2
  replace c3 := below_cells hal _ _ c3
  replace c4 := below_cells hal _ _ c4
  replace c5 := below_cells hal _ _ c5
  replace c6 := below_cells hal _ _ c6
  replace c7 := below_cells hal _ _ c7
  replace d0 := below_cells hal _ _ d0
  replace d1 := below_cells hal _ _ d1
  clear hz hal hT HB5
  go_wp2_with fail
  refine (HW3.out w6).mono ?_
  rintro e w7 ⟨v, rfl, htx, hb⟩
  have HB7 := Lib.hid (HB6.out.trans (hb.mono HB6.out.size))
  replace q0 := below_cells hb _ _ q0
  replace t2 := below_cells hb _ _ t2
  clear hb HB6 HW3 c0 c1 e2 c3 c4 c5 c6 c7 d0 d1
  obtain ⟨va, vo, rfl, ha, hob, -, -⟩ := htx.at
  obtain ⟨a1, m1, rfl, -, -⟩ := ha.shape
  obtain ⟨a2, m2, rfl, -, -⟩ := hob.shape
  rw [show (noTx, (2 : Int)).1.ver = 0 from rfl, show (noTx, (2 : Int)).1.lock = 0 from rfl, show (noTx, (2 : Int)).1.ins.length = 0 from rfl, show (noTx, (2 : Int)).1.outs.length = 0 from rfl]
  clear ha hob
  go_upto_region 6 with fail
  have hz := heap_alloc_new w7 (.cells #[.int .u32 (0 : Nat), .slice a1 0 m1, .slice a2 0 m2, .int .u32 (0 : Nat)] 43)
  have hal : Below w7.heap.size w7 (w7.alloc (.cells #[.int .u32 (0 : Nat), .slice a1 0 m1, .slice a2 0 m2, .int .u32 (0 : Nat)] 43)) := (Below.refl _ _).alloc (Nat.le_refl _) _
  obtain ⟨U, hU⟩ : ∃ q, q = w7.heap.size := ⟨_, rfl⟩
  rw [← hU] at hz ⊢
  generalize w7.alloc (.cells #[.int .u32 (0 : Nat), .slice a1 0 m1, .slice a2 0 m2, .int .u32 (0 : Nat)] 43) = w8 at *
  have HB8 := Lib.hid (HB7.out.trans (hal.mono HB7.out.size))
  replace q0 := below_cells hal _ _ q0
  replace t2 := below_cells hal _ _ t2
  clear hz hal hU HB7
  go_wp2_with fail
  refine (csize_any w8).mono ?_
  rintro e w9 ⟨rfl, hb⟩
  have HB9 := Lib.hid (HB8.out.trans (hb.mono HB8.out.size))
  replace q0 := below_cells hb _ _ q0
  replace t2 := below_cells hb _ _ t2
  clear hb HB8
  go_wp2_with fail
  go_ret
  exact ⟨rfl, HB9.out⟩
end Go.Proofs.Ytmakghcoehkphaa
end

section
/-
  ChildBuilds: the walk. Conditions: the numbers are ones of their kinds.
-/
namespace Go.Proofs.Ytmakghcoehkphaa
open Go.RowKit Go.BigFrame
set_option linter.unusedVariables false
set_option linter.unusedSimpArgs false

theorem TxAt.shape4 {w : World} {v : Value} {t : PTx} (h : TxAt w v t) : ∃ i1 i2 o1 o2, v = .agg #[.int .u32 t.ver, .slice i1 t.ins.length i2, .slice o1 t.outs.length o2, .int .u32 t.lock] := by
  obtain ⟨va, vo, rfl, hia, hoa, -, -⟩ := h
  obtain ⟨i1, i2, rfl, -, -⟩ := hia.shape
  obtain ⟨o1, o2, rfl, -, -⟩ := hoa.shape
  exact ⟨_, _, _, _, rfl⟩
/-- Two rows of a claim one behind the other. -/
theorem two_cl {w : World} {b : Nat} {x y : PCl} {t : TypeId} (h : w.heap[b]? = some (.cells #[.string x.id, .int .u32 x.idx, .int .i64 x.val, .int .i64 x.br, .int .u16 x.lock.tag, .int .u16 x.lock.delay, .int .u32 x.lock.height, .int .i64 x.dead, .string y.id, .int .u32 y.idx, .int .i64 y.val, .int .i64 y.br, .int .u16 y.lock.tag, .int .u16 y.lock.delay, .int .u32 y.lock.height, .int .i64 y.dead] t (0, 0))) {k : Nat} (hk : k < 2) (hx : x.Ok) (hy : y.Ok) :
    ∃ u : PCl, u.Ok ∧ w.cell? ⟨b, k * 8, none⟩ = some (.string u.id) ∧ w.cell? ⟨b, k * 8 + 1, none⟩ = some (.int .u32 u.idx) ∧ w.cell? ⟨b, k * 8 + 2, none⟩ = some (.int .i64 u.val) ∧ w.cell? ⟨b, k * 8 + 3, none⟩ = some (.int .i64 u.br) ∧ w.cell? ⟨b, k * 8 + 4, none⟩ = some (.int .u16 u.lock.tag) ∧ w.cell? ⟨b, k * 8 + 5, none⟩ = some (.int .u16 u.lock.delay) ∧ w.cell? ⟨b, k * 8 + 6, none⟩ = some (.int .u32 u.lock.height) ∧ w.cell? ⟨b, k * 8 + 7, none⟩ = some (.int .i64 u.dead) := by
  obtain rfl | rfl : k = 0 ∨ k = 1 := by omega
  · exact ⟨x, hx, cell_at h, cell_at h, cell_at h, cell_at h, cell_at h, cell_at h, cell_at h, cell_at h⟩
  · exact ⟨y, hy, cell_at h, cell_at h, cell_at h, cell_at h, cell_at h, cell_at h, cell_at h, cell_at h⟩
theorem two_int {w : World} {b : Nat} {x y : Int} {t : TypeId} (h : w.heap[b]? = some (.cells #[.int .i64 x, .int .i64 y] t (0, 0))) {k : Nat} (hk : k < 2) (hx : -9223372036854775808 ≤ x ∧ x ≤ 9223372036854775807) (hy : -9223372036854775808 ≤ y ∧ y ≤ 9223372036854775807) :
    ∃ u : Int, (-9223372036854775808 ≤ u ∧ u ≤ 9223372036854775807) ∧ w.cell? ⟨b, k, none⟩ = some (.int .i64 u) := by
  obtain rfl | rfl : k = 0 ∨ k = 1 := by omega
  · exact ⟨x, hx, cell_at h⟩
  · exact ⟨y, hy, cell_at h⟩
set_option maxRecDepth 100000 in
set_option maxHeartbeats 8000000 in
theorem childBuilds_walk (v : Value) (z : PRaw) (w : World) (hv : v = .agg (rawCells z) ∧ z.Ok) : Calls Try.prog 3 #[v] w (BIs true w) := by
  obtain ⟨rfl, hok⟩ := hv
  have HOF := Lib.hid (fun y => of_any z y)
  have HOK := Lib.hid hok
  unfold rawCells at HOF ⊢
  unfold clV at HOF
  rw [show (ofA z).idx = z.a.idx from rfl, show (ofA z).val = z.a.val from rfl, show (ofA z).br = z.a.br from rfl, show (ofA z).lock = z.a.lock from rfl, show (ofA z).dead = z.a.dead from rfl] at HOF
  have hsl := ofA_len hok
  have hpl := ofP_len hok
  obtain ⟨sa, hsa⟩ : ∃ s, s = (ofA z).id := ⟨_, rfl⟩
  obtain ⟨sp, hsp⟩ : ∃ s, s = ofP z := ⟨_, rfl⟩
  rw [← hsa, ← hsp] at HOF
  rw [← hsa] at hsl
  rw [← hsp] at hpl
  have HSL := Lib.hid hsl
  have HPL := Lib.hid hpl
  clear hsa hsp hok hsl hpl
  go_enter Try.func3, Try.ntmps3
  go_upto_region 1 with fail
  have hz := heap_alloc_new w (.cells #[.string z.a.id, .int .u32 z.a.idx, .int .i64 z.a.val, .int .i64 z.a.br, .int .u16 z.a.lock.tag, .int .u16 z.a.lock.delay, .int .u32 z.a.lock.height, .int .i64 z.a.dead, .string z.pid, .int .u32 z.pidx, .int .i64 z.val, .int .u16 z.tag, .int .i64 z.fee, .bool z.odd] 31)
  have hal : Below w.heap.size w (w.alloc (.cells #[.string z.a.id, .int .u32 z.a.idx, .int .i64 z.a.val, .int .i64 z.a.br, .int .u16 z.a.lock.tag, .int .u16 z.a.lock.delay, .int .u32 z.a.lock.height, .int .i64 z.a.dead, .string z.pid, .int .u32 z.pidx, .int .i64 z.val, .int .u16 z.tag, .int .i64 z.fee, .bool z.odd] 31)) := (Below.refl _ _).alloc (Nat.le_refl _) _
  obtain ⟨X, hX⟩ : ∃ q, q = w.heap.size := ⟨_, rfl⟩
  rw [← hX] at hz ⊢
  generalize w.alloc (.cells #[.string z.a.id, .int .u32 z.a.idx, .int .i64 z.a.val, .int .i64 z.a.br, .int .u16 z.a.lock.tag, .int .u16 z.a.lock.delay, .int .u32 z.a.lock.height, .int .i64 z.a.dead, .string z.pid, .int .u32 z.pidx, .int .i64 z.val, .int .u16 z.tag, .int .i64 z.fee, .bool z.odd] 31) = w0 at *
  have HZ0 := Lib.hid hz
  have HB0 := Lib.hid hal
  have hX1 : w.heap.size ≤ X := by omega
  have z0 : w0.cell? ⟨X, 0, none⟩ = some (.string z.a.id) := cell_at hz
  have z1 : w0.cell? ⟨X, 1, none⟩ = some (.int .u32 z.a.idx) := cell_at hz
  have z2 : w0.cell? ⟨X, 2, none⟩ = some (.int .i64 z.a.val) := cell_at hz
  have z3 : w0.cell? ⟨X, 3, none⟩ = some (.int .i64 z.a.br) := cell_at hz
  have z4 : w0.cell? ⟨X, 4, none⟩ = some (.int .u16 z.a.lock.tag) := cell_at hz
  have z5 : w0.cell? ⟨X, 5, none⟩ = some (.int .u16 z.a.lock.delay) := cell_at hz
  have z6 : w0.cell? ⟨X, 6, none⟩ = some (.int .u32 z.a.lock.height) := cell_at hz
  have z7 : w0.cell? ⟨X, 7, none⟩ = some (.int .i64 z.a.dead) := cell_at hz
  have z8 : w0.cell? ⟨X, 8, none⟩ = some (.string z.pid) := cell_at hz
  have z9 : w0.cell? ⟨X, 9, none⟩ = some (.int .u32 z.pidx) := cell_at hz
  have z10 : w0.cell? ⟨X, 10, none⟩ = some (.int .i64 z.val) := cell_at hz
  have z11 : w0.cell? ⟨X, 11, none⟩ = some (.int .u16 z.tag) := cell_at hz
  have z12 : w0.cell? ⟨X, 12, none⟩ = some (.int .i64 z.fee) := cell_at hz
  have z13 : w0.cell? ⟨X, 13, none⟩ = some (.bool z.odd) := cell_at hz
  clear hz hal hX
  go_wp2_with fail
  refine (HOF.out w0).mono ?_
  rintro e w1 ⟨rfl, hb⟩
  have HB1 := Lib.hid (HB0.out.trans (hb.mono HB0.out.size))
  have HZ0 := Lib.hid (stay HZ0.out hb)
  have hl1 := lt_of HZ0.out
  clear hb HB0 z0 z1 z2 z3 z4 z5 z6 z7 z8 z9 z10 z11 z12 z13
  go_upto_region 2 with fail
  obtain ⟨P, hP⟩ : ∃ q, q = w1.heap.size := ⟨_, rfl⟩
  have hnews := new2 w1 P hP (.cells #[.string sa, .int .u32 z.a.idx, .int .i64 z.a.val, .int .i64 z.a.br, .int .u16 z.a.lock.tag, .int .u16 z.a.lock.delay, .int .u32 z.a.lock.height, .int .i64 z.a.dead] 29) (.cells #[.string sp, .int .u32 z.pidx] 24)
  rw [← hP]
  generalize ((w1.alloc (.cells #[.string sa, .int .u32 z.a.idx, .int .i64 z.a.val, .int .i64 z.a.br, .int .u16 z.a.lock.tag, .int .u16 z.a.lock.delay, .int .u32 z.a.lock.height, .int .i64 z.a.dead] 29)).alloc (.cells #[.string sp, .int .u32 z.pidx] 24)) = w2 at *
  obtain ⟨hz0, hz1, hal⟩ := hnews
  have hXP : X < P := by omega
  have hPX : w.heap.size ≤ P := by omega
  have HB2 := Lib.hid (HB1.out.trans (hal.mono HB1.out.size))
  have HZ0 := Lib.hid (stay HZ0.out hal)
  have HP := Lib.hid hz0
  have HQ := Lib.hid hz1
  have hl2 := lt_of hz1
  have p0 : w2.cell? ⟨P, 0, none⟩ = some (.string sa) := cell_at hz0
  have p1 : w2.cell? ⟨P, 1, none⟩ = some (.int .u32 z.a.idx) := cell_at hz0
  have p2 : w2.cell? ⟨P, 2, none⟩ = some (.int .i64 z.a.val) := cell_at hz0
  have p3 : w2.cell? ⟨P, 3, none⟩ = some (.int .i64 z.a.br) := cell_at hz0
  have p4 : w2.cell? ⟨P, 4, none⟩ = some (.int .u16 z.a.lock.tag) := cell_at hz0
  have p5 : w2.cell? ⟨P, 5, none⟩ = some (.int .u16 z.a.lock.delay) := cell_at hz0
  have p6 : w2.cell? ⟨P, 6, none⟩ = some (.int .u32 z.a.lock.height) := cell_at hz0
  have p7 : w2.cell? ⟨P, 7, none⟩ = some (.int .i64 z.a.dead) := cell_at hz0
  clear hz0 hz1 hal hP HB1
  go_upto_region 3 with fail
  have hz := heap_alloc_new w2 (.cells #[.string sa, .int .u32 z.a.idx, .int .i64 z.a.val, .int .i64 z.a.br, .int .u16 z.a.lock.tag, .int .u16 z.a.lock.delay, .int .u32 z.a.lock.height, .int .i64 z.a.dead] 29)
  have hal : Below w2.heap.size w2 (w2.alloc (.cells #[.string sa, .int .u32 z.a.idx, .int .i64 z.a.val, .int .i64 z.a.br, .int .u16 z.a.lock.tag, .int .u16 z.a.lock.delay, .int .u32 z.a.lock.height, .int .i64 z.a.dead] 29)) := (Below.refl _ _).alloc (Nat.le_refl _) _
  obtain ⟨M, hM⟩ : ∃ q, q = w2.heap.size := ⟨_, rfl⟩
  rw [← hM] at hz ⊢
  generalize w2.alloc (.cells #[.string sa, .int .u32 z.a.idx, .int .i64 z.a.val, .int .i64 z.a.br, .int .u16 z.a.lock.tag, .int .u16 z.a.lock.delay, .int .u32 z.a.lock.height, .int .i64 z.a.dead] 29) = w3 at *
  have hPM : P + 1 < M := by omega
  have HB3 := Lib.hid (HB2.out.trans (hal.mono HB2.out.size))
  have HZ0 := Lib.hid (stay HZ0.out hal)
  have HP := Lib.hid (stay HP.out hal)
  have HQ := Lib.hid (stay HQ.out hal)
  have HM := Lib.hid hz
  replace p2 := below_cells hal _ _ p2
  replace p3 := below_cells hal _ _ p3
  have m2 : w3.cell? ⟨M, 2, none⟩ = some (.int .i64 z.a.val) := cell_at hz
  have m3 : w3.cell? ⟨M, 3, none⟩ = some (.int .i64 z.a.br) := cell_at hz
  have m6 : w3.cell? ⟨M, 6, none⟩ = some (.int .u32 z.a.lock.height) := cell_at hz
  have f2 : w3.frozen? ⟨M, 2, none⟩ = false := free_at hz
  have f3 : w3.frozen? ⟨M, 3, none⟩ = false := free_at hz
  have f6 : w3.frozen? ⟨M, 6, none⟩ = false := free_at hz
  have hm1 : 0 ≤ max 0 z.a.val % 1000000 ∧ max 0 z.a.val % 1000000 < 1000000 := by omega
  have hm2 : 0 ≤ max 0 z.a.br % 3 ∧ max 0 z.a.br % 3 < 3 := by omega
  have HM1 := Lib.hid hm1
  have HM2 := Lib.hid hm2
  clear hm1 hm2
  obtain ⟨va, hva⟩ : ∃ v, v = max 0 z.a.val % 1000000 := ⟨_, rfl⟩
  obtain ⟨br, hbr⟩ : ∃ v, v = max 0 z.a.br % 3 := ⟨_, rfl⟩
  rw [← hva] at HM1
  rw [← hbr] at HM2
  have HVA := Lib.hid hva
  have HBR := Lib.hid hbr
  clear hva hbr hz hal hM HB2 p0 p1 p4 p5 p6 p7
  go_cut [] (fun wx => Below w.heap.size w wx ∧ (∀ b, b ≠ M → wx.heap[b]? = w3.heap[b]?) ∧ wx.heap[M]? = some (.cells #[.string sa, .int .u32 z.a.idx, .int .i64 va, .int .i64 br, .int .u16 z.a.lock.tag, .int .u16 z.a.lock.delay, .int .u32 0, .int .i64 z.a.dead] 29 (0, 0)))
  case first =>
    go_region
    go_wp2_with fail
    go_meet
    rw [← HVA.out, ← HBR.out]
    have g0 := heap_setCell_at (j := 2) (u := .int .i64 va) HM.out
    have g1 := heap_setCell_at (j := 3) (u := .int .i64 br) g0
    have g2 := heap_setCell_at (j := 6) (u := .int .u32 0) g1
    have hMX : w.heap.size ≤ M := by omega
    exact ⟨(((HB3.out.setCell (p := ⟨M, 2, none⟩) hMX _).setCell (p := ⟨M, 3, none⟩) hMX _).setCell (p := ⟨M, 6, none⟩) hMX _).drew, fun b hb => ((Below.heap_setCell _ _ _ _ hb).trans (Below.heap_setCell _ _ _ _ hb)).trans (Below.heap_setCell _ _ _ _ hb), g2⟩
  case rest =>
    rename World => w4
    obtain ⟨hB, hO, hM⟩ := hcut
    have HB4 := Lib.hid hB
    have HZ0 := Lib.hid ((hO X (by omega)).trans HZ0.out)
    have HP := Lib.hid ((hO P (by omega)).trans HP.out)
    have HQ := Lib.hid ((hO (P + 1) (by omega)).trans HQ.out)
    have HM := Lib.hid hM
    clear hB hO hM p2 p3 m2 m3 m6 f2 f3 f6 HB3
    have okA : PCl.Ok ⟨sa, z.a.idx, z.a.val, z.a.br, z.a.lock, z.a.dead⟩ := ⟨HSL.out, HOK.out.a.idx, HOK.out.a.val, HOK.out.a.br, HOK.out.a.lock, HOK.out.a.dead⟩
    have okN : PCl.Ok ⟨sa, z.a.idx, va, br, ⟨z.a.lock.tag, z.a.lock.delay, 0⟩, z.a.dead⟩ := ⟨HSL.out, HOK.out.a.idx, by have := HM1.out; dsimp only; omega, by have := HM2.out; dsimp only; omega, ⟨HOK.out.a.lock.tag, HOK.out.a.lock.delay, by show 0 < 4294967296; omega⟩, HOK.out.a.dead⟩
    have HOKA := Lib.hid okA
    have HOKN := Lib.hid okN
    clear okA okN
    have p0 : w4.cell? ⟨P, 0, none⟩ = some (.string sa) := cell_at HP.out
    have p1 : w4.cell? ⟨P, 1, none⟩ = some (.int .u32 z.a.idx) := cell_at HP.out
    have p2 : w4.cell? ⟨P, 2, none⟩ = some (.int .i64 z.a.val) := cell_at HP.out
    have p3 : w4.cell? ⟨P, 3, none⟩ = some (.int .i64 z.a.br) := cell_at HP.out
    have p4 : w4.cell? ⟨P, 4, none⟩ = some (.int .u16 z.a.lock.tag) := cell_at HP.out
    have p5 : w4.cell? ⟨P, 5, none⟩ = some (.int .u16 z.a.lock.delay) := cell_at HP.out
    have p6 : w4.cell? ⟨P, 6, none⟩ = some (.int .u32 z.a.lock.height) := cell_at HP.out
    have p7 : w4.cell? ⟨P, 7, none⟩ = some (.int .i64 z.a.dead) := cell_at HP.out
    have m0 : w4.cell? ⟨M, 0, none⟩ = some (.string sa) := cell_at HM.out
    have m1 : w4.cell? ⟨M, 1, none⟩ = some (.int .u32 z.a.idx) := cell_at HM.out
    have m2 : w4.cell? ⟨M, 2, none⟩ = some (.int .i64 va) := cell_at HM.out
    have m3 : w4.cell? ⟨M, 3, none⟩ = some (.int .i64 br) := cell_at HM.out
    have m4 : w4.cell? ⟨M, 4, none⟩ = some (.int .u16 z.a.lock.tag) := cell_at HM.out
    have m5 : w4.cell? ⟨M, 5, none⟩ = some (.int .u16 z.a.lock.delay) := cell_at HM.out
    have m6 : w4.cell? ⟨M, 6, none⟩ = some (.int .u32 0) := cell_at HM.out
    have m7 : w4.cell? ⟨M, 7, none⟩ = some (.int .i64 z.a.dead) := cell_at HM.out
    go_wp2_with fail
    have hz := heap_alloc_new w4 (.cells #[.string sa, .int .u32 z.a.idx, .int .i64 z.a.val, .int .i64 z.a.br, .int .u16 z.a.lock.tag, .int .u16 z.a.lock.delay, .int .u32 z.a.lock.height, .int .i64 z.a.dead, .string sa, .int .u32 z.a.idx, .int .i64 va, .int .i64 br, .int .u16 z.a.lock.tag, .int .u16 z.a.lock.delay, .int .u32 0, .int .i64 z.a.dead] 29)
    have hal : Below w4.heap.size w4 (w4.alloc (.cells #[.string sa, .int .u32 z.a.idx, .int .i64 z.a.val, .int .i64 z.a.br, .int .u16 z.a.lock.tag, .int .u16 z.a.lock.delay, .int .u32 z.a.lock.height, .int .i64 z.a.dead, .string sa, .int .u32 z.a.idx, .int .i64 va, .int .i64 br, .int .u16 z.a.lock.tag, .int .u16 z.a.lock.delay, .int .u32 0, .int .i64 z.a.dead] 29)) := (Below.refl _ _).alloc (Nat.le_refl _) _
    obtain ⟨R, hR⟩ : ∃ q, q = w4.heap.size := ⟨_, rfl⟩
    rw [← hR] at hz ⊢
    generalize w4.alloc (.cells #[.string sa, .int .u32 z.a.idx, .int .i64 z.a.val, .int .i64 z.a.br, .int .u16 z.a.lock.tag, .int .u16 z.a.lock.delay, .int .u32 z.a.lock.height, .int .i64 z.a.dead, .string sa, .int .u32 z.a.idx, .int .i64 va, .int .i64 br, .int .u16 z.a.lock.tag, .int .u16 z.a.lock.delay, .int .u32 0, .int .i64 z.a.dead] 29) = w5 at *
    have HB5 := Lib.hid (HB4.out.trans (hal.mono HB4.out.size))
    have HZ0 := Lib.hid (stay HZ0.out hal)
    have HQ := Lib.hid (stay HQ.out hal)
    have HR := Lib.hid hz
    clear hz hal hR HB4 HP HM p0 m0 p1 m1 p2 m2 p3 m3 p4 m4 p5 m5 p6 m6 p7 m7
    have HTAG := Lib.hid HOK.out.tag
    go_loopg [39] 2 (fun g i wr => ∃ k : Nat, g = 2 - k ∧ k ≤ 2 ∧ i = .int .i64 k ∧ Below w5.heap.size w5 wr)
    case atStart => exact ⟨0, rfl, by omega, rfl, Below.refl _ _⟩
    case round =>
      rename World => wa
      obtain ⟨k, hgk, hk, rfl, hba⟩ := hrel
      have HGK := Lib.hid hgk
      have HBA := Lib.hid (HB5.out.trans (hba.mono HB5.out.size))
      have HBA5 := Lib.hid hba
      have HZ0 := Lib.hid (stay HZ0.out hba)
      have HQ := Lib.hid (stay HQ.out hba)
      have HR := Lib.hid (stay HR.out hba)
      clear hgk hba
      by_cases hlt : k < 2
      · obtain ⟨x, hxok, c0, c1, c2, c3, c4, c5, c6, c7⟩ := two_cl (x := ⟨sa, z.a.idx, z.a.val, z.a.br, z.a.lock, z.a.dead⟩) (y := ⟨sa, z.a.idx, va, br, ⟨z.a.lock.tag, z.a.lock.delay, 0⟩, z.a.dead⟩) HR.out hlt HOKA.out HOKN.out
        have HXOK := Lib.hid hxok
        clear hxok
        go_upto_region 7 with fail
        have hz := heap_alloc_new wa (.cells #[.string x.id, .int .u32 x.idx, .int .i64 x.val, .int .i64 x.br, .int .u16 x.lock.tag, .int .u16 x.lock.delay, .int .u32 x.lock.height, .int .i64 x.dead] 29)
        have hal : Below wa.heap.size wa (wa.alloc (.cells #[.string x.id, .int .u32 x.idx, .int .i64 x.val, .int .i64 x.br, .int .u16 x.lock.tag, .int .u16 x.lock.delay, .int .u32 x.lock.height, .int .i64 x.dead] 29)) := (Below.refl _ _).alloc (Nat.le_refl _) _
        obtain ⟨Y, hY⟩ : ∃ q, q = wa.heap.size := ⟨_, rfl⟩
        rw [← hY] at hz ⊢
        generalize wa.alloc (.cells #[.string x.id, .int .u32 x.idx, .int .i64 x.val, .int .i64 x.br, .int .u16 x.lock.tag, .int .u16 x.lock.delay, .int .u32 x.lock.height, .int .i64 x.dead] 29) = wb at *
        have HBB := Lib.hid (HBA.out.trans (hal.mono HBA.out.size))
        have HBB5 := Lib.hid (HBA5.out.trans (hal.mono HBA5.out.size))
        have HZ0 := Lib.hid (stay HZ0.out hal)
        have HQ := Lib.hid (stay HQ.out hal)
        have HY := Lib.hid hz
        clear hz hal hY c0 c1 c2 c3 c4 c5 c6 c7 HBA HBA5
        have z10 : wb.cell? ⟨X, 10, none⟩ = some (.int .i64 z.val) := cell_at HZ0.out
        go_wp2_with fail
        have hvr : 0 ≤ max 0 z.val % 1000000 ∧ max 0 z.val % 1000000 < 1000000 := by omega
        generalize max 0 z.val % 1000000 = v2 at *
        have hz := heap_alloc_new wb (.cells #[.int .i64 z.val, .int .i64 v2] 3)
        have hal : Below wb.heap.size wb (wb.alloc (.cells #[.int .i64 z.val, .int .i64 v2] 3)) := (Below.refl _ _).alloc (Nat.le_refl _) _
        obtain ⟨S, hS⟩ : ∃ q, q = wb.heap.size := ⟨_, rfl⟩
        rw [← hS] at hz ⊢
        generalize wb.alloc (.cells #[.int .i64 z.val, .int .i64 v2] 3) = wc at *
        have HBC := Lib.hid (HBB.out.trans (hal.mono HBB.out.size))
        have HBC5 := Lib.hid (HBB5.out.trans (hal.mono HBB5.out.size))
        have HZ0 := Lib.hid (stay HZ0.out hal)
        have HQ := Lib.hid (stay HQ.out hal)
        have HY := Lib.hid (stay HY.out hal)
        have HS := Lib.hid hz
        have HVR := Lib.hid hvr
        clear hz hal hS z10 HBB HBB5 hvr
        rw [show decide ((k : Int) < 2) = true from decide_eq_true (by omega)]
        go_loopg [51] 2 (fun g i wr => ∃ j : Nat, g = 2 - j ∧ j ≤ 2 ∧ i = .int .i64 j ∧ Below wc.heap.size wc wr)
        case atStart => exact ⟨0, rfl, by omega, rfl, Below.refl _ _⟩
        case round =>
          rename World => wd
          obtain ⟨j, hgj, hj, rfl, hbd⟩ := hrel
          have HGJ := Lib.hid hgj
          have HBD := Lib.hid (HBC.out.trans (hbd.mono HBC.out.size))
          have HBD5 := Lib.hid (HBC5.out.trans (hbd.mono HBC5.out.size))
          have HBDC := Lib.hid hbd
          have HZ0 := Lib.hid (stay HZ0.out hbd)
          have HQ := Lib.hid (stay HQ.out hbd)
          have HY := Lib.hid (stay HY.out hbd)
          have HS := Lib.hid (stay HS.out hbd)
          clear hgj hbd
          by_cases hlj : j < 2
          · obtain ⟨cv, hcv, s0⟩ := two_int HS.out hlj HOK.out.val (by have := HVR.out; omega)
            have HCV := Lib.hid hcv
            have z12 : wd.cell? ⟨X, 12, none⟩ = some (.int .i64 z.fee) := cell_at HZ0.out
            clear hcv
            go_wp2_with fail
            have hfr : 0 ≤ max 0 z.fee % 1000000 ∧ max 0 z.fee % 1000000 < 1000000 := by omega
            generalize max 0 z.fee % 1000000 = f2 at *
            have hz := heap_alloc_new wd (.cells #[.int .i64 z.fee, .int .i64 f2] 3)
            have hal : Below wd.heap.size wd (wd.alloc (.cells #[.int .i64 z.fee, .int .i64 f2] 3)) := (Below.refl _ _).alloc (Nat.le_refl _) _
            obtain ⟨U, hU⟩ : ∃ q, q = wd.heap.size := ⟨_, rfl⟩
            rw [← hU] at hz ⊢
            generalize wd.alloc (.cells #[.int .i64 z.fee, .int .i64 f2] 3) = we at *
            have HBE := Lib.hid (HBD.out.trans (hal.mono HBD.out.size))
            have HBE5 := Lib.hid (HBD5.out.trans (hal.mono HBD5.out.size))
            have HBEC := Lib.hid (HBDC.out.trans (hal.mono HBDC.out.size))
            have HZ0 := Lib.hid (stay HZ0.out hal)
            have HQ := Lib.hid (stay HQ.out hal)
            have HY := Lib.hid (stay HY.out hal)
            have HU := Lib.hid hz
            have HFR := Lib.hid hfr
            clear hz hal hU z12 s0 HBD HBD5 HBDC hfr
            rw [show decide ((j : Int) < 2) = true from decide_eq_true (by omega)]
            go_loopg [63] 2 (fun g i wr => ∃ q : Nat, g = 2 - q ∧ q ≤ 2 ∧ i = .int .i64 q ∧ Below we.heap.size we wr)
            case atStart => exact ⟨0, rfl, by omega, rfl, Below.refl _ _⟩
            case round =>
              rename World => wf
              obtain ⟨q, hgq, hq, rfl, hbf⟩ := hrel
              have HGQ := Lib.hid hgq
              have HBF := Lib.hid (HBE.out.trans (hbf.mono HBE.out.size))
              have HBF5 := Lib.hid (HBE5.out.trans (hbf.mono HBE5.out.size))
              have HBFC := Lib.hid (HBEC.out.trans (hbf.mono HBEC.out.size))
              have HBFE := Lib.hid hbf
              have HZ0 := Lib.hid (stay HZ0.out hbf)
              have HQ := Lib.hid (stay HQ.out hbf)
              have HY := Lib.hid (stay HY.out hbf)
              have HU := Lib.hid (stay HU.out hbf)
              clear hgq hbf
              by_cases hlq : q < 2
              · obtain ⟨fe, hfe, s0⟩ := two_int HU.out hlq HOK.out.fee (by have := HFR.out; omega)
                clear hfe
                go_upto_region 14 with fail
                have hz := heap_alloc_new wf (.cells #[.int .i64 cv, .string ⟨#[]⟩, .int .i64 0] 39)
                have hal : Below wf.heap.size wf (wf.alloc (.cells #[.int .i64 cv, .string ⟨#[]⟩, .int .i64 0] 39)) := (Below.refl _ _).alloc (Nat.le_refl _) _
                obtain ⟨C, hC⟩ : ∃ q, q = wf.heap.size := ⟨_, rfl⟩
                rw [← hC] at hz ⊢
                generalize wf.alloc (.cells #[.int .i64 cv, .string ⟨#[]⟩, .int .i64 0] 39) = wg at *
                have HBG := Lib.hid (HBFE.out.trans (hal.mono HBFE.out.size))
                have HZ0 := Lib.hid (stay HZ0.out hal)
                have HQ := Lib.hid (stay HQ.out hal)
                have HY := Lib.hid (stay HY.out hal)
                have d0 : wg.cell? ⟨C, 0, none⟩ = some (.int .i64 cv) := cell_at hz
                have d1 : wg.cell? ⟨C, 1, none⟩ = some (.string ⟨#[]⟩) := cell_at hz
                have d2 : wg.cell? ⟨C, 2, none⟩ = some (.int .i64 0) := cell_at hz
                have y0 : wg.cell? ⟨Y, 0, none⟩ = some (.string x.id) := cell_at HY.out
                have y1 : wg.cell? ⟨Y, 1, none⟩ = some (.int .u32 x.idx) := cell_at HY.out
                have y2 : wg.cell? ⟨Y, 2, none⟩ = some (.int .i64 x.val) := cell_at HY.out
                have y3 : wg.cell? ⟨Y, 3, none⟩ = some (.int .i64 x.br) := cell_at HY.out
                have y4 : wg.cell? ⟨Y, 4, none⟩ = some (.int .u16 x.lock.tag) := cell_at HY.out
                have y5 : wg.cell? ⟨Y, 5, none⟩ = some (.int .u16 x.lock.delay) := cell_at HY.out
                have y6 : wg.cell? ⟨Y, 6, none⟩ = some (.int .u32 x.lock.height) := cell_at HY.out
                have y7 : wg.cell? ⟨Y, 7, none⟩ = some (.int .i64 x.dead) := cell_at HY.out
                have q0 : wg.cell? ⟨P + 1, 0, none⟩ = some (.string sp) := cell_at HQ.out
                have q1 : wg.cell? ⟨P + 1, 1, none⟩ = some (.int .u32 z.pidx) := cell_at HQ.out
                have z11 : wg.cell? ⟨X, 11, none⟩ = some (.int .u16 z.tag) := cell_at HZ0.out
                clear hz hal hC s0
                have HB1 := Lib.hid (fun y => cbuild_any x sp z.pidx cv ⟨#[]⟩ 0 z.tag fe HXOK.out HPL.out HOK.out.pidx HTAG.out y)
                have HB2 := Lib.hid (fun y => rbuild_any x sp z.pidx cv ⟨#[]⟩ 0 z.tag fe HXOK.out HPL.out HOK.out.pidx (wf_of HCV.out) HTAG.out y)
                unfold clV enV at HB1 HB2
                generalize childOf x sp z.pidx cv z.tag fe = res at *
                obtain ⟨t, er⟩ := res
                go_wp2_with fail
                refine (HB1.out wg).mono ?_
                rintro e wh ⟨v1, rfl, htx, hb⟩
                have HBH := Lib.hid (HBG.out.trans (hb.mono HBG.out.size))
                have HTX := Lib.hid htx.at
                replace d0 := below_cells hb _ _ d0
                replace d1 := below_cells hb _ _ d1
                replace d2 := below_cells hb _ _ d2
                replace z11 := below_cells hb _ _ z11
                replace q0 := below_cells hb _ _ q0
                replace q1 := below_cells hb _ _ q1
                replace y0 := below_cells hb _ _ y0
                replace y1 := below_cells hb _ _ y1
                replace y2 := below_cells hb _ _ y2
                replace y3 := below_cells hb _ _ y3
                replace y4 := below_cells hb _ _ y4
                replace y5 := below_cells hb _ _ y5
                replace y6 := below_cells hb _ _ y6
                replace y7 := below_cells hb _ _ y7
                obtain ⟨a1, b1, a2, b2, rfl⟩ := htx.at.shape4
                clear hb htx HB1 HBG
                generalize hn1 : t.ins.length = n1 at *
                generalize hn2 : t.outs.length = n2 at *
                have HN1 := Lib.hid hn1
                have HN2 := Lib.hid hn2
                clear hn1 hn2
                dsimp only
                go_upto_region 15 with fail
                have hz := heap_alloc_new wh (.cells #[.int .u32 t.ver, .slice a1 n1 b1, .slice a2 n2 b2, .int .u32 t.lock] 43)
                have hal : Below wh.heap.size wh (wh.alloc (.cells #[.int .u32 t.ver, .slice a1 n1 b1, .slice a2 n2 b2, .int .u32 t.lock] 43)) := (Below.refl _ _).alloc (Nat.le_refl _) _
                obtain ⟨T, hT⟩ : ∃ q, q = wh.heap.size := ⟨_, rfl⟩
                rw [← hT] at hz ⊢
                generalize wh.alloc (.cells #[.int .u32 t.ver, .slice a1 n1 b1, .slice a2 n2 b2, .int .u32 t.lock] 43) = wi at *
                have HBI := Lib.hid (HBH.out.trans (hal.mono HBH.out.size))
                have HTX := Lib.hid (HTX.out.below hal)
                replace d0 := below_cells hal _ _ d0
                replace d1 := below_cells hal _ _ d1
                replace d2 := below_cells hal _ _ d2
                replace z11 := below_cells hal _ _ z11
                replace q0 := below_cells hal _ _ q0
                replace q1 := below_cells hal _ _ q1
                replace y0 := below_cells hal _ _ y0
                replace y1 := below_cells hal _ _ y1
                replace y2 := below_cells hal _ _ y2
                replace y3 := below_cells hal _ _ y3
                replace y4 := below_cells hal _ _ y4
                replace y5 := below_cells hal _ _ y5
                replace y6 := below_cells hal _ _ y6
                replace y7 := below_cells hal _ _ y7
                have t0 : wi.cell? ⟨T, 0, none⟩ = some (.int .u32 t.ver) := cell_at hz
                have t1 : wi.cell? ⟨T, 1, none⟩ = some (.slice a1 n1 b1) := cell_at hz
                have t2 : wi.cell? ⟨T, 2, none⟩ = some (.slice a2 n2 b2) := cell_at hz
                have t3 : wi.cell? ⟨T, 3, none⟩ = some (.int .u32 t.lock) := cell_at hz
                clear hz hal hT HBH
                go_wp2_with fail
                refine (HB2.out wi).mono ?_
                rintro e wj ⟨v2', rfl, htx, hb⟩
                have HBJ := Lib.hid (HBI.out.trans (hb.mono HBI.out.size))
                have HTX := Lib.hid (HTX.out.below hb)
                have HTY := Lib.hid htx.at
                replace t0 := below_cells hb _ _ t0
                replace t1 := below_cells hb _ _ t1
                replace t2 := below_cells hb _ _ t2
                replace t3 := below_cells hb _ _ t3
                obtain ⟨a3, b3, a4, b4, rfl⟩ := htx.at.shape4
                clear hb htx HB2 HBI d0 d1 d2 z11 q0 q1 y0 y1 y2 y3 y4 y5 y6 y7
                dsimp only
                dsimp only at HTY
                rw [HN1.out, HN2.out] at HTY ⊢
                go_upto_region 16 with fail
                have hz := heap_alloc_new wj (.cells #[.int .u32 t.ver, .slice a3 n1 b3, .slice a4 n2 b4, .int .u32 t.lock] 43)
                have hal : Below wj.heap.size wj (wj.alloc (.cells #[.int .u32 t.ver, .slice a3 n1 b3, .slice a4 n2 b4, .int .u32 t.lock] 43)) := (Below.refl _ _).alloc (Nat.le_refl _) _
                obtain ⟨W, hW⟩ : ∃ q, q = wj.heap.size := ⟨_, rfl⟩
                rw [← hW] at hz ⊢
                generalize wj.alloc (.cells #[.int .u32 t.ver, .slice a3 n1 b3, .slice a4 n2 b4, .int .u32 t.lock] 43) = wk at *
                have HBK := Lib.hid (HBJ.out.trans (hal.mono HBJ.out.size))
                have HTX := Lib.hid (HTX.out.below hal)
                have HTY := Lib.hid (HTY.out.below hal)
                replace t0 := below_cells hal _ _ t0
                replace t1 := below_cells hal _ _ t1
                replace t2 := below_cells hal _ _ t2
                replace t3 := below_cells hal _ _ t3
                have u0 : wk.cell? ⟨W, 0, none⟩ = some (.int .u32 t.ver) := cell_at hz
                have u1 : wk.cell? ⟨W, 1, none⟩ = some (.slice a3 n1 b3) := cell_at hz
                have u2 : wk.cell? ⟨W, 2, none⟩ = some (.slice a4 n2 b4) := cell_at hz
                have u3 : wk.cell? ⟨W, 3, none⟩ = some (.int .u32 t.lock) := cell_at hz
                clear hz hal hW HBJ
                have HSM := Lib.hid (same_any _ _ t t wk HTX.out HTY.out)
                rw [same_yes rfl] at HSM
                go_wp2_with fail
                refine HSM.out.mono ?_
                rintro e wl ⟨rfl, hb⟩
                have HBL := Lib.hid (HBK.out.trans (hb.mono HBK.out.size))
                clear hb HSM t0 t1 t2 t3 u0 u1 u2 u3 HBK HTX HTY
                go_wp2_with fail
                go_roundg (2 - (q + 1))
                case measure => have := HGQ.out; omega
                case rel => exact ⟨q + 1, rfl, by omega, by go_num, HBL.out⟩
              · obtain rfl : q = 2 := by omega
                go_wp2_with fail
                go_roundg (2 - (j + 1))
                case measure => have := HGJ.out; omega
                case rel => exact ⟨j + 1, rfl, by omega, by go_num, HBFC.out⟩
          · obtain rfl : j = 2 := by omega
            go_wp2_with fail
            go_roundg (2 - (k + 1))
            case measure => have := HGK.out; omega
            case rel => exact ⟨k + 1, rfl, by omega, by go_num, HBD5.out⟩
      · obtain rfl : k = 2 := by omega
        go_wp2_with fail
        refine (wakes24_any wa).mono ?_
        rintro e wb ⟨rfl, hb⟩
        have HBB := Lib.hid (HBA.out.trans (hb.mono HBA.out.size))
        clear hb
        go_wp2_with fail
        go_ret
        exact ⟨rfl, HBB.out⟩
end Go.Proofs.Ytmakghcoehkphaa
end
