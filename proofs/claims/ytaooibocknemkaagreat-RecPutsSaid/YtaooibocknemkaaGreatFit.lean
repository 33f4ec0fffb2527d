/-
  kedgeref05.ID and kedgeref05.Fit: a transaction of which the parts may be, in memory of its own. Conditions: none beyond each theorem's own.
-/
import Derived.Test.YtaooibocknemkaaGreatCut
import Derived.Test.YtaooibocknemkaaGreatQ1RecPuts
namespace Go.Proofs.YtaooibocknemkaaGreat
open Go.RowKit Go.BigFrame
open Go.Lib (hid)
set_option linter.unusedVariables false
set_option linter.unusedSimpArgs false

/-- An In that may be; an Out that may be. -/
structure FitIn (x : PIn) : Prop where
  id : x.id.size = 32
  len : x.wit.length ≤ 4
  wit : ∀ s ∈ x.wit, s.size ≤ 80
structure FitOut (x : POut) : Prop where
  val : 0 ≤ x.val ∧ x.val < 100000000000000
  script : x.script.size ≤ 40
structure Fitted (t : PTx) : Prop where
  ins : ∀ x ∈ t.ins, FitIn x
  outs : ∀ x ∈ t.outs, FitOut x
  few : t.ins.length ≤ 8 ∧ t.outs.length ≤ 8

/-- What stands while a transaction is being made to fit. -/
structure FW (w : World) (X : Nat) (ver lock : Nat) (vi vo : Value) (ps : List (PIn × Value)) (outs : List POut) (wr : World) : Prop where
  bel : Below w.heap.size w wr
  r : wr.heap[w.heap.size + 1]? = some (.cells #[.int .u32 0, .slice none 0 0, .slice none 0 0, .int .u32 0] 26 (0, 0))
  u : wr.heap[X]? = some (.cells #[.int .u32 ver, vi, vo, .int .u32 lock] 26 (0, 0))
  ins : InsOwn (w.heap.size + 2) wr vi ps
  outs : OutsOwn (w.heap.size + 2) wr vo outs
  apart : ∀ b, vo.ownBlock = some b → ¬ InsHas vi ps b
  lowi : ∀ b, InsHas vi ps b → b < X
  lowo : ∀ b, vo.ownBlock = some b → b < X
  le : w.heap.size + 2 ≤ X

theorem insHas_set {v : Value} {ps : List (PIn × Value)} {i : Nat} {p p' : PIn × Value} (hi : ps[i]? = some p) (he : p'.2.ownBlock = p.2.ownBlock) {b : Nat} (h : InsHas v (ps.set i p') b) : InsHas v ps b := by
  rcases h with h | ⟨j, q, hq, hb⟩
  · exact .inl h
  · by_cases hj : j = i
    · subst hj
      rw [List.getElem?_set_self (List.getElem?_eq_some_iff.1 hi).1] at hq
      obtain rfl := Option.some.inj hq
      exact .inr ⟨j, p, hi, by rw [← he]; exact hb⟩
    · rw [List.getElem?_set_ne (Ne.symm hj)] at hq
      exact .inr ⟨j, q, hq, hb⟩

theorem FW.next {w : World} {X ver lock : Nat} {vi vo : Value} {ps : List (PIn × Value)} {outs : List POut} {wr w' : World} (h : FW w X ver lock vi vo ps outs wr) (hb : Below wr.heap.size wr w') : FW w X ver lock vi vo ps outs w' :=
  ⟨h.bel.trans (hb.mono h.bel.size), (hb.block _ (Array.getElem?_eq_some_iff.1 h.r).1).trans h.r, (hb.block _ (Array.getElem?_eq_some_iff.1 h.u).1).trans h.u, h.ins.below hb, h.outs.below hb, h.apart, h.lowi, h.lowo, h.le⟩

/-- A cell of an In is written. -/
theorem FW.set {w : World} {X ver lock b n c : Nat} {vo : Value} {ps : List (PIn × Value)} {outs : List POut} {wr : World} (h : FW w X ver lock (.slice (some ⟨b, 0, none⟩) n c) vo ps outs wr) {i : Nat} {p p' : PIn × Value} (hi : ps[i]? = some p) (j : Nat) (u : Value) (hj : j < 4) (hs : (inRow p).set j u = inRow p')
    (hw : wr.ownsRow (w.heap.size + 2) 9 1 p'.2 p'.1.wit.length (strCells p'.1.wit)) (hok : OkIn p'.1) (hb : p'.2.ownBlock = p.2.ownBlock) :
    FW w X ver lock (.slice (some ⟨b, 0, none⟩) n c) vo (ps.set i p') outs (wr.setCell ⟨b, i * 4 + j, none⟩ u) := by
  have hbi : w.heap.size + 2 ≤ b ∧ b < X := ⟨(h.ins.lt (.inl rfl)).1, h.lowi b (.inl rfl)⟩
  refine ⟨h.bel.setCell (by dsimp only; omega) _, ?_, ?_, h.ins.set hi j u hj hs hw hok (.inl hb), ?_, fun b' e hh => h.apart b' e (insHas_set hi hb hh), fun b' hh => h.lowi b' (insHas_set hi hb hh), h.lowo, h.le⟩
  · exact (Below.heap_setCell _ _ _ _ (by dsimp only; omega)).trans h.r
  · exact (Below.heap_setCell _ _ _ _ (by dsimp only; omega)).trans h.u
  · exact h.outs.kept fun b' e => Below.heap_setCell _ _ _ _ (fun e' => h.apart b' e (.inl (by rw [e']; rfl)))

theorem FW.setStr {w : World} {X ver lock : Nat} {vi vo : Value} {ps : List (PIn × Value)} {outs : List POut} {wr : World} (h : FW w X ver lock vi vo ps outs wr) {i : Nat} {x : PIn} {B l c : Nat} (hi : ps[i]? = some (x, .slice (some ⟨B, 0, none⟩) l c)) {k : Nat} (hk : k < x.wit.length) (s : ByteArray) (hs : s.size ≤ maxLen) :
    FW w X ver lock vi vo (ps.set i ({ x with wit := x.wit.set k s }, .slice (some ⟨B, 0, none⟩) l c)) outs (wr.setCell ⟨B, k, none⟩ (.string s)) := by
  have hB : InsHas vi ps B := .inr ⟨i, _, hi, rfl⟩
  have hbi : w.heap.size + 2 ≤ B ∧ B < X := ⟨(h.ins.lt hB).1, h.lowi B hB⟩
  refine ⟨h.bel.setCell (by dsimp only; omega) _, ?_, ?_, h.ins.setStr hi hk s hs, ?_, fun b' e hh => h.apart b' e (insHas_set (p' := ({ x with wit := x.wit.set k s }, .slice (some ⟨B, 0, none⟩) l c)) hi rfl hh), fun b' hh => h.lowi b' (insHas_set (p' := ({ x with wit := x.wit.set k s }, .slice (some ⟨B, 0, none⟩) l c)) hi rfl hh), h.lowo, h.le⟩
  · exact (Below.heap_setCell _ _ _ _ (by dsimp only; omega)).trans h.r
  · exact (Below.heap_setCell _ _ _ _ (by dsimp only; omega)).trans h.u
  · exact h.outs.kept fun b' e => Below.heap_setCell _ _ _ _ (fun e' => h.apart b' e (e' ▸ hB))

theorem FW.setOut {w : World} {X ver lock b n c : Nat} {vi : Value} {ps : List (PIn × Value)} {outs : List POut} {wr : World} (h : FW w X ver lock vi (.slice (some ⟨b, 0, none⟩) n c) ps outs wr) {i : Nat} {x x' : POut} (hi : outs[i]? = some x) (j : Nat) (u : Value) (hj : j < 2) (hs : (outRow x).set j u = outRow x') (hok : OkOut x') :
    FW w X ver lock vi (.slice (some ⟨b, 0, none⟩) n c) ps (outs.set i x') (wr.setCell ⟨b, i * 2 + j, none⟩ u) := by
  have hbi : w.heap.size + 2 ≤ b ∧ b < X := ⟨(h.outs.row.lt b rfl).1, h.lowo b rfl⟩
  refine ⟨h.bel.setCell (by dsimp only; omega) _, ?_, ?_, ?_, h.outs.set hi j u hj hs hok, h.apart, h.lowi, h.lowo, h.le⟩
  · exact (Below.heap_setCell _ _ _ _ (by dsimp only; omega)).trans h.r
  · exact (Below.heap_setCell _ _ _ _ (by dsimp only; omega)).trans h.u
  · exact h.ins.store _ _ (fun hh => h.apart b rfl hh)

theorem ownsRow_strAt {w : World} {base n c : Nat} {a : Option Addr} {l : List ByteArray} (h : w.ownsRow base 9 1 (.slice a n c) n (strCells l)) {j : Nat} {s : ByteArray} (hj : l[j]? = some s) : ∃ b, a = some ⟨b, 0, none⟩ ∧ w.cell? ⟨b, j, none⟩ = some (.string s) ∧ w.frozen? ⟨b, j, none⟩ = false := by
  have hl : l.length = n := by have := h.1; simpa [strCells] using this
  obtain ⟨b, rfl, -, -⟩ := ownsRow_some h (by have := (List.getElem?_eq_some_iff.1 hj).1; omega)
  refine ⟨b, rfl, ?_, ownsRow_free h j⟩
  have := h.cells (g := b) rfl j (.string s) (by simp [strCells, hj])
  rw [Addr.add_lit] at this
  simpa using this

/-! ### ID -/
def idByte (n : Int) (i : Nat) : Int := bits .xor .u8 (n / 2 ^ (i % 8) % 256) i
theorem wrap_u8_range (m : Int) : 0 ≤ IntKind.u8.wrap m ∧ IntKind.u8.wrap m < 256 := by
  rw [IntKind.wrap_u8]
  exact ⟨Int.emod_nonneg _ (by decide), Int.emod_lt_of_pos _ (by decide)⟩
theorem idByte_range (n : Int) (i : Nat) : 0 ≤ idByte n i ∧ idByte n i < 256 := wrap_u8_range _
def idL (n : Int) (k : Nat) : List UInt8 := (List.range k).map fun i => UInt8.ofNat (idByte n i).toNat
theorem idL_len (n : Int) (k : Nat) : (idL n k).length = k := by simp [idL]
theorem idL_succ (n : Int) (k : Nat) : idL n (k + 1) = idL n k ++ [UInt8.ofNat (idByte n k).toNat] := by simp [idL, List.range_succ]
def idB (n : Int) : ByteArray := ⟨(idL n 32).toArray⟩
theorem idB_size (n : Int) : (idB n).size = 32 := by rw [idB, mk_size, idL_len]

set_option maxRecDepth 100000 in
set_option maxHeartbeats 1000000 in
theorem id_any (n : Int) (w : World) : Calls Tryz.prog 38 #[.int .i64 n] w fun e w' => e = .returned (.string (idB n)) ∧ Below w.heap.size w w' := by
  go_enter Tryz.func38, Tryz.ntmps38
  go_wp2_with fail
  go_loopw [3, 4] (fun out i wr => ∃ k : Nat, k ≤ 32 ∧ i = .int .i64 k ∧ Below w.heap.size w wr ∧ out = .string ⟨(idL n k).toArray⟩) (fun _ i _ => 32 - (intOf i).toNat)
  case atStart => exact ⟨0, by omega, rfl, Below.refl _ _, rfl⟩
  case round =>
    obtain ⟨k, hk, rfl, hbw, rfl⟩ := hrel
    have HBW := hid hbw
    clear hbw
    by_cases hlt : k < 32
    · have hcv := convert_byte wr (idByte n k) (idByte_range n k)
      unfold idByte at hcv
      have hlen := idL_len n k
      go_wp2_with fail
      go_roundw
      case rel => exact ⟨k + 1, by omega, by go_num, HBW.out.alloc HBW.out.size _, by rw [idL_succ]; simp [idByte, mk_mk]⟩
      case measure => simp [intOf]; omega
    · obtain rfl : k = 32 := by omega
      go_wp2
      go_ret
      exact ⟨rfl, HBW.out⟩


def FitIs (w : World) (e : Ending) (w' : World) : Prop := ∃ v t, e = .returned v ∧ TxOwn w.heap.size w' v t ∧ Fitted t ∧ Below w.heap.size w w'

/-- The first so many Ins are as they may be. -/
def DoneIn (i : Nat) (ps : List (PIn × Value)) : Prop := ∀ (j : Nat) (p : PIn × Value), ps[j]? = some p → j < i → FitIn p.1
theorem DoneIn.set {i : Nat} {ps : List (PIn × Value)} (h : DoneIn i ps) (p : PIn × Value) : DoneIn i (ps.set i p) := by
  intro j q hq hj
  rw [List.getElem?_set_ne (by omega)] at hq
  exact h j q hq hj
theorem set_same {α : Type} {l : List α} {i : Nat} {a : α} (h : l[i]? = some a) : l.set i a = l := by
  obtain ⟨h1, h2⟩ := List.getElem?_eq_some_iff.1 h
  rw [← h2]
  exact List.set_getElem_self h1
def DoneOut (i : Nat) (os : List POut) : Prop := ∀ (j : Nat) (p : POut), os[j]? = some p → j < i → FitOut p
theorem DoneOut.set {i : Nat} {os : List POut} (h : DoneOut i os) (p : POut) : DoneOut i (os.set i p) := by
  intro j q hq hj
  rw [List.getElem?_set_ne (by omega)] at hq
  exact h j q hq hj

theorem DoneOut.step {i : Nat} {os : List POut} (h : DoneOut i os) {p : POut} (hp : FitOut p) : DoneOut (i + 1) (os.set i p) := by
  intro j q hq hj
  by_cases hji : j = i
  · subst hji
    rw [List.getElem?_set_self (by have := (List.getElem?_eq_some_iff.1 hq).1; simpa using this)] at hq
    obtain rfl := Option.some.inj hq
    exact hp
  · rw [List.getElem?_set_ne (Ne.symm hji)] at hq
    exact h j q hq (by omega)

theorem FW.start {w w1 : World} {ver lock : Nat} {va vb vi vo : Value} {l lk : Value} {ps : List (PIn × Value)} {outs : List POut}
    (hi : InsOwn (w.heap.size + 2) w1 vi ps) (ho : OutsOwn (w.heap.size + 2) w1 vo outs) (ha : ∀ b, vo.ownBlock = some b → ¬ InsHas vi ps b)
    (hb : Below (w.heap.size + 2) ((w.alloc (.cells #[l, va, vb, lk] 26)).alloc (.cells #[.int .u32 0, .slice none 0 0, .slice none 0 0, .int .u32 0] 26)) w1) :
    FW w w1.heap.size ver lock vi vo ps outs (w1.alloc (.cells #[.int .u32 ver, vi, vo, .int .u32 lock] 26)) := by
  have s1 : (w.alloc (.cells #[l, va, vb, lk] 26)).heap.size = w.heap.size + 1 := by simp
  have s2 : ((w.alloc (.cells #[l, va, vb, lk] 26)).alloc (.cells #[.int .u32 0, .slice none 0 0, .slice none 0 0, .int .u32 0] 26)).heap.size = w.heap.size + 2 := by simp
  have hsz := hb.size
  rw [s2] at hsz
  have hb0 : Below w.heap.size w w1 := (((Below.refl _ _).alloc (Nat.le_refl _) _).alloc (by omega) _).trans (hb.mono (by omega))
  have hal : Below w1.heap.size w1 (w1.alloc (.cells #[.int .u32 ver, vi, vo, .int .u32 lock] 26)) := (Below.refl _ _).alloc (Nat.le_refl _) _
  refine ⟨hb0.trans (hal.mono hb0.size), ?_, heap_alloc_new w1 _, hi.below hal, ho.below hal, ha, fun b hh => (hi.lt hh).2, fun b e => (ho.row.lt b e).2, hsz⟩
  rw [Below.heap_alloc _ _ _ (by omega), hb.block _ (by omega), ← s1]
  exact heap_alloc_new _ _

theorem fit_is {w wz w4 : World} {X ver lock : Nat} {vi vo : Value} {ps : List (PIn × Value)} {outs : List POut} (h : FW w X ver lock vi vo ps outs wz) (hv : ver < 4294967296 ∧ lock < 4294967296) (hd : DoneIn ps.length ps) (hdo : DoneOut outs.length outs) (hf : ps.length ≤ 8 ∧ outs.length ≤ 8)
    (hk : ∀ b, w.heap.size + 2 ≤ b → w4.heap[b]? = wz.heap[b]?) (hb : Below w.heap.size w w4) : FitIs w (.returned (.agg #[.int .u32 ver, vi, vo, .int .u32 lock])) w4 := by
  refine ⟨_, ⟨ver, ps.map (·.1), outs, lock⟩, rfl, ⟨⟨vi, vo, ps, rfl, rfl, (h.ins.kept fun b hh => hk b (h.ins.lt hh).1).base (by omega), (h.outs.kept fun b e => hk b (h.outs.row.lt b e).1).base (by omega), h.apart⟩, hv.1, hv.2⟩, ⟨?_, ?_, ?_⟩, hb⟩
  · intro x hx
    obtain ⟨p, hp, rfl⟩ := List.mem_map.1 hx
    obtain ⟨j, hj, rfl⟩ := List.mem_iff_getElem.1 hp
    exact hd j _ (List.getElem?_eq_getElem hj) hj
  · intro x hx
    obtain ⟨j, hj, rfl⟩ := List.mem_iff_getElem.1 hx
    exact hdo j _ (List.getElem?_eq_getElem hj) hj
  · simpa using hf

set_option maxRecDepth 100000 in
set_option maxHeartbeats 4000000 in
theorem fit_any (v : Value) (t : PTx) (w : World) (hv : TxAt w v t) :
    Calls Tryz.prog 37 #[v] w (FitIs w) := by
  obtain ⟨va, vb, rfl, hia, hob, hver, hlock⟩ := id hv
  have HT := hid hv
  clear hv hia hob
  obtain ⟨ver0, ins, outs0, lock0⟩ := t
  dsimp only at *
  clear hver hlock
  have hs2 : ∀ (a b : Obj), ((w.alloc a).alloc b).heap.size = w.heap.size + 2 := fun a b => by simp
  have HS2 := hid hs2
  clear hs2
  have hcc := fun (a b : Obj) => cut_any _ _ 8 _ (HT.out.below (((Below.refl _ _).alloc (Nat.le_refl _) a).alloc (by simp) b)) (by decide)
  have HCC := hid hcc
  clear hcc
  go_enter Tryz.func37, Tryz.ntmps37
  go_wp2_with fail
  refine (HCC.out _ _).mono ?_
  rintro e w1 ⟨v1, rfl, hown, hb1⟩
  rw [HS2.out] at hown hb1
  obtain ⟨⟨vi, vo, ps0, rfl, hp0, hi0, ho0, ha0⟩, hv0, hl0⟩ := hown
  have hn8 : ps0.length ≤ 8 ∧ (cutTx 8 ⟨ver0, ins, outs0, lock0⟩).outs.length ≤ 8 := by
    refine ⟨?_, by simp [cutTx, List.length_take]; omega⟩
    have := congrArg List.length hp0
    rw [List.length_map] at this
    rw [← this]
    simp [cutTx, List.length_take]
    omega
  have hfw := FW.start hi0 ho0 ha0 hb1 (ver := (cutTx 8 ⟨ver0, ins, outs0, lock0⟩).ver) (lock := (cutTx 8 ⟨ver0, ins, outs0, lock0⟩).lock)
  generalize (cutTx 8 ⟨ver0, ins, outs0, lock0⟩).ver = ver at *
  generalize (cutTx 8 ⟨ver0, ins, outs0, lock0⟩).lock = lock at *
  generalize (cutTx 8 ⟨ver0, ins, outs0, lock0⟩).outs = outs at *
  have HV := hid (And.intro hv0 hl0)
  obtain ⟨ai, ci, rfl, -, -⟩ := ownsRow_shape hi0.row
  obtain ⟨ao, co, rfl, -, -⟩ := ownsRow_shape ho0.row
  obtain ⟨N, hN⟩ : ∃ N, N = ps0.length := ⟨_, rfl⟩
  obtain ⟨M, hM⟩ : ∃ N, N = outs.length := ⟨_, rfl⟩
  have HN := hid (show N ≤ 8 ∧ M ≤ 8 by rw [hN, hM]; exact hn8)
  rw [← hN, ← hM] at hfw
  rw [← hN, ← hM]
  obtain ⟨X, hX⟩ : ∃ X, X = w1.heap.size := ⟨_, rfl⟩
  have HFW := hid hfw
  have HPN := hid hN.symm
  have HOM := hid hM.symm
  clear hp0 hi0 ho0 ha0 hv0 hl0 hn8 hfw hb1 hN hM HT HCC
  go_upto_block 0 with fail
  rw [← hX] at HFW ⊢
  generalize w1.alloc (.cells #[.int .u32 ver, .slice ai N ci, .slice ao M co, .int .u32 lock] 26) = w2 at *
  clear hX
  go_cut [4, 5] (fun _ _ wx => ∃ ps, ps.length = N ∧ FW w X ver lock (.slice ai N ci) (.slice ao M co) ps outs wx ∧ DoneIn N ps)
  case first =>
    go_wp2_with fail
    go_loopg [4, 5] N (fun g i _ wr => ∃ (k : Nat) (ps : List (PIn × Value)), g = N - k ∧ k ≤ N ∧ i = .int .i64 k ∧ ps.length = N ∧ FW w X ver lock (.slice ai N ci) (.slice ao M co) ps outs wr ∧ DoneIn k ps)
    case atStart => exact ⟨0, ps0, by omega, by omega, rfl, HPN.out, HFW.out, fun j p _ h => by omega⟩
    case round =>
      rename World => wo
      obtain ⟨k, ps, hgk, hkn, rfl, hpn, hfw, hdi⟩ := hrel
      have cu : wo.cell? ⟨X, 1, none⟩ = some (.slice ai N ci) := cell_at hfw.u
      have hN8 := HN.out.1
      have HGK := hid hgk
      have HDI := hid hdi
      have HPL := hid hpn
      have HFO := hid hfw
      clear hgk hdi HFW HPN
      by_cases hlt : k < N
      · obtain ⟨⟨x, wv⟩, hpk⟩ : ∃ p, ps[k]? = some p := ⟨_, List.getElem?_eq_getElem (by omega)⟩
        obtain ⟨b, rfl, -, -, d0, -, -, -⟩ := hfw.ins.at hpk
        have hxs : x.id.size ≤ 9223372036854775807 := (hfw.ins.ok k _ hpk).id
        dsimp only at d0
        have HPK := hid hpk
        clear hfw hpk hpn
        go_upto_if 25 with fail
        go_cut [4] (fun s4 wx => s4 = .int .i64 k ∧ ∃ x1, x1.id.size = 32 ∧ FW w X ver lock (.slice (some ⟨b, 0, none⟩) N ci) (.slice ao M co) (ps.set k (x1, wv)) outs wx)
        case first =>
          by_cases h32 : x.id.size = 32
          · have hb : ((x.id.size : Int) != 32) = false := by rw [bne_eq_false_iff_eq]; omega
            have H32 := hid h32
            clear h32
            go_wp2_with fail
            go_meet
            exact ⟨rfl, x, H32.out, by rw [set_same HPK.out]; exact HFO.out⟩
          · have hb : ((x.id.size : Int) != 32) = true := by rw [bne_iff_ne]; omega
            clear h32
            obtain ⟨C, hC⟩ : ∃ C : World → Prop, C = fun w' => Below wo.heap.size wo w' := ⟨_, rfl⟩
            have hk0 : ∀ y : Kin C, y.w.cell? ⟨X, 1, none⟩ = some (.slice (some ⟨b, 0, none⟩) N ci) := by
              intro ⟨y, h⟩; subst hC; exact below_cells h _ _ cu
            have hk1 : ∀ y : Kin C, y.w.cell? ⟨b, k * 4, none⟩ = some (.string x.id) := by
              intro ⟨y, h⟩; subst hC; exact below_cells h _ _ d0
            have hstep : ∀ (x : Kin C) (w' : World), Below x.w.heap.size x.w w' → C w' := by
              intro ⟨x, h⟩ w' h2; subst hC; exact h.trans (h2.mono h.size)
            have HST := hid hstep
            have HC := hid hC
            clear hstep hC
            go_wp2_with fail
            refine wp_region_last_kin C 18 _ rfl rfl (by kernel_rfl) (by kernel_rfl) (by kernel_rfl) (by kernel_rfl) (by kernel_rfl) (by kernel_rfl) (by rw [HC.out]; exact (Below.refl _ _).drew) ?_
            intro hne
            dsimp only [List.set, struck]
            repeat (first | (go_big_quiet_step ((rename_i y; go_at_call 38; exact Calls.kin (id_any _ _) (HST.out y)))) | (quiet_step ((rename_i y; go_at_call 38; exact Calls.kin (id_any _ _) (HST.out y)))))
            refine wpQuiet_nil ?_
            intro _ hw'
            obtain ⟨kx, hw''⟩ := hw'
            subst hw''
            obtain ⟨wx, hxc⟩ := kx
            rw [HC.out] at hxc
            have d0x := below_cells hxc _ _ d0
            have hfx := HFO.out.next hxc
            have f0x := ownsRow_free hfx.ins.row (k * 4)
            have HFX := hid hfx
            clear hfx hxc
            go_wp2_with fail
            go_meet
            exact ⟨rfl, ⟨idB _, x.idx, x.seq, x.wit⟩, idB_size _, HFX.out.set (p' := (⟨idB _, x.idx, x.seq, x.wit⟩, wv)) HPK.out 0 (.string (idB _)) (by omega) rfl (HFX.out.ins.wit k (x, wv) HPK.out) ⟨by dsimp only; rw [idB_size]; decide, (HFX.out.ins.ok k (x, wv) HPK.out).idx, (HFX.out.ins.ok k (x, wv) HPK.out).seq, (HFX.out.ins.ok k (x, wv) HPK.out).wit⟩ rfl⟩
        case rest =>
          obtain ⟨rfl, x1, hx1, hfw1⟩ := hcut
          rename World => wa
          have hpk1 : (ps.set k (x1, wv))[k]? = some (x1, wv) := List.getElem?_set_self (by rw [HPL.out]; exact hlt)
          have hdi1 := HDI.out.set (x1, wv)
          have hpn1 : (ps.set k (x1, wv)).length = N := by rw [List.length_set]; exact HPL.out
          generalize ps.set k (x1, wv) = ps1 at *
          have hsh := ownsRow_shape (hfw1.ins.wit k _ hpk1)
          dsimp only at hsh
          obtain ⟨aw, cw, rfl, hwl, hwm⟩ := hsh
          rw [maxLen_eq] at hwm
          try dsimp only at hpk1
          try dsimp only at hwl
          obtain ⟨b', e, -, -, -, -, -, d3⟩ := hfw1.ins.at hpk1
          obtain rfl : b = b' := by simpa using e
          have cu1 : wa.cell? ⟨X, 1, none⟩ = some (.slice (some ⟨b, 0, none⟩) N ci) := cell_at hfw1.u
          have f3 := ownsRow_free hfw1.ins.row (k * 4 + 3)
          dsimp only at d3
          have HX1 := hid hx1
          have HP1 := hid hpk1
          have HD1 := hid hdi1
          have HN1 := hid hpn1
          have HF1 := hid hfw1
          clear hx1 hpk1 hdi1 hpn1 hfw1 cu d0 HPK HFO HDI HPL hxs e
          obtain ⟨L1, hL1⟩ : ∃ L, L = x1.wit.length := ⟨_, rfl⟩
          rw [← hL1] at d3 hwl HP1
          have HL1 := hid hL1
          clear hL1
          go_upto_if 51 with fail
          go_cut [4] (fun s4 wx => s4 = .int .i64 k ∧ ∃ x2 a2 c2, x2.id.size = 32 ∧ x2.wit.length ≤ 4 ∧ FW w X ver lock (.slice (some ⟨b, 0, none⟩) N ci) (.slice ao M co) (ps1.set k (x2, .slice a2 x2.wit.length c2)) outs wx)
          case first =>
            by_cases h4 : 4 < L1
            · have h4w : 4 ≤ cw := by omega
              go_wp2_with fail
              go_region
              all_goals go_wp2_with fail
              all_goals go_meet
              all_goals
                have hfd := HF1.out.next (Below.refl _ _).drew
                refine ⟨rfl, ⟨x1.id, x1.idx, x1.seq, x1.wit.take 4⟩, aw, cw, HX1.out, by simp [List.length_take]; omega, ?_⟩
                have htl : (x1.wit.take 4).length = 4 := by rw [List.length_take, ← HL1.out]; omega
                dsimp only
                rw [htl]
                refine hfd.set (p' := (⟨x1.id, x1.idx, x1.seq, x1.wit.take 4⟩, .slice aw 4 cw)) HP1.out 3 (.slice aw 4 cw) (by omega) rfl ?_ ⟨(hfd.ins.ok k _ HP1.out).id, (hfd.ins.ok k _ HP1.out).idx, (hfd.ins.ok k _ HP1.out).seq, fun s hs => (hfd.ins.ok k _ HP1.out).wit s (List.mem_of_mem_take hs)⟩ (by cases aw <;> rfl)
                dsimp only
                rw [htl]
                have h := hfd.ins.wit k _ HP1.out
                dsimp only at h
                rw [← HL1.out] at h
                have h2 := ownsRow_cut h (by omega : 4 ≤ L1)
                have h3 : strCells (x1.wit.take 4) = (strCells x1.wit).take 4 := by simp [strCells, List.map_take]
                rw [h3]
                exact h2
            · go_wp2_with fail
              go_meet
              exact ⟨rfl, x1, aw, cw, HX1.out, by rw [← HL1.out]; omega, by rw [← HL1.out, set_same HP1.out]; exact HF1.out⟩
          case rest =>
            obtain ⟨rfl, x2, a2, c2, hx2, hl2, hfw2⟩ := hcut
            rename World => wb
            have hpk2 : (ps1.set k (x2, .slice a2 x2.wit.length c2))[k]? = some (x2, .slice a2 x2.wit.length c2) := List.getElem?_set_self (by rw [HN1.out]; exact hlt)
            have hdi2 := HD1.out.set (x2, .slice a2 x2.wit.length c2)
            have hpn2 : (ps1.set k (x2, .slice a2 x2.wit.length c2)).length = N := by rw [List.length_set]; exact HN1.out
            generalize ps1.set k (x2, .slice a2 x2.wit.length c2) = ps2 at *
            obtain ⟨L, hL⟩ : ∃ L, L = x2.wit.length := ⟨_, rfl⟩
            rw [← hL] at hpk2 hl2
            have HSTART := hid (And.intro hpn2 (And.intro hdi2 (And.intro hpk2 (And.intro hx2 (And.intro hL hfw2)))))
            clear hpn2 hdi2 hpk2 hx2 hL hfw2 cu1 d3 f3 HX1 HP1 HD1 HN1 HF1 HL1 hwl hwm
            go_wp2_with fail
            go_loopg [5] L (fun g i wr => ∃ (j : Nat) (x3 : PIn) (ps3 : List (PIn × Value)), g = L - j ∧ j ≤ L ∧ i = .int .i64 j ∧ ps3.length = N ∧ DoneIn k ps3 ∧ ps3[k]? = some (x3, .slice a2 L c2) ∧ x3.id.size = 32 ∧ x3.wit.length = L ∧ (∀ (m : Nat) s, x3.wit[m]? = some s → m < j → s.size ≤ 80) ∧ FW w X ver lock (.slice (some ⟨b, 0, none⟩) N ci) (.slice ao M co) ps3 outs wr)
            case atStart => exact ⟨0, x2, ps2, by omega, by omega, rfl, HSTART.out.1, HSTART.out.2.1, HSTART.out.2.2.1, HSTART.out.2.2.2.1, HSTART.out.2.2.2.2.1.symm, fun m s _ h => by omega, HSTART.out.2.2.2.2.2⟩
            case round =>
              rename World => wc
              obtain ⟨j, x3, ps3, hgj, hjL, rfl, hpn3, hdi3, hpk3, hx3, hxl, hsm, hfw3⟩ := hrel
              obtain ⟨b', e, -, -, -, -, -, d3⟩ := hfw3.ins.at hpk3
              obtain rfl : b = b' := by simpa using e
              have cu3 : wc.cell? ⟨X, 1, none⟩ = some (.slice (some ⟨b, 0, none⟩) N ci) := cell_at hfw3.u
              dsimp only at d3
              have hw3 := hfw3.ins.wit k _ hpk3
              have hok3 := hfw3.ins.ok k _ hpk3
              dsimp only at hw3 hok3
              rw [hxl] at hw3
              have HP3 := hid hpk3
              have HD3 := hid hdi3
              have HN3 := hid hpn3
              have HF3 := hid hfw3
              have HX3 := hid hx3
              have HL3 := hid hxl
              have HSM := hid hsm
              have HGJ := hid hgj
              have HOK3 := hid hok3
              clear hpk3 hdi3 hpn3 hfw3 hx3 hsm hgj hok3 e HSTART
              by_cases hjl : j < L
              · obtain ⟨s, hs⟩ : ∃ s, x3.wit[j]? = some s := ⟨_, List.getElem?_eq_getElem (by omega)⟩
                obtain ⟨bw, rfl, g0, fg⟩ := ownsRow_strAt hw3 hs
                have hsl : s.size ≤ 9223372036854775807 := HOK3.out.wit s (List.mem_of_getElem? hs)
                have HS := hid hs
                obtain ⟨hwl3, hwm3⟩ : L ≤ c2 ∧ c2 ≤ 9223372036854775807 := by
                  obtain ⟨_, _, e, h1, h2⟩ := ownsRow_shape hw3
                  obtain ⟨-, rfl⟩ : some (⟨bw, 0, none⟩ : Addr) = _ ∧ c2 = _ := by simpa using e
                  exact ⟨h1, by rw [maxLen_eq] at h2; exact h2⟩
                clear hs hw3 hxl
                go_upto_block 3 with fail
                go_cut [5] (fun s4 wx => s4 = .int .i64 j ∧ ∃ s', s'.size ≤ 80 ∧ FW w X ver lock (.slice (some ⟨b, 0, none⟩) N ci) (.slice ao M co) (ps3.set k ({ x3 with wit := x3.wit.set j s' }, .slice (some ⟨bw, 0, none⟩) L c2)) outs wx)
                case first =>
                  by_cases h80 : 80 < s.size
                  · go_wp2_with fail
                    go_region
                    all_goals go_wp2_with fail
                    all_goals go_meet
                    all_goals exact ⟨rfl, s.extract 0 80, by simp [ByteArray.size_extract]; omega, (HF3.out.next (Below.refl _ _).drew).setStr HP3.out (by rw [HL3.out]; exact hjl) _ (by simp [ByteArray.size_extract]; rw [maxLen_eq]; omega)⟩
                  · go_wp2_with fail
                    go_meet
                    refine ⟨rfl, s, by omega, ?_⟩
                    have h1 : x3.wit.set j s = x3.wit := set_same HS.out
                    rw [h1]
                    have h2 : ps3.set k (x3, .slice (some ⟨bw, 0, none⟩) L c2) = ps3 := set_same HP3.out
                    exact h2.symm ▸ HF3.out
                case rest =>
                  obtain ⟨rfl, s', hs', hfw4⟩ := hcut
                  have HF4 := hid hfw4
                  clear hfw4 cu3 d3 g0 fg
                  go_wp2_with fail
                  go_roundg (L - (j + 1))
                  case measure => have := HGJ.out; omega
                  case rel =>
                    refine ⟨j + 1, { x3 with wit := x3.wit.set j s' }, _, rfl, by omega, by go_num, by rw [List.length_set]; exact HN3.out, HD3.out.set _, List.getElem?_set_self (by rw [HN3.out]; exact hlt), HX3.out, by dsimp only; rw [List.length_set]; exact HL3.out, ?_, HF4.out⟩
                    intro m s2 hm hmj
                    dsimp only at hm
                    by_cases hmj2 : m = j
                    · subst hmj2
                      rw [List.getElem?_set_self (by rw [HL3.out]; exact hjl)] at hm
                      obtain rfl := Option.some.inj hm
                      exact hs'
                    · rw [List.getElem?_set_ne (Ne.symm hmj2)] at hm
                      exact HSM.out m s2 hm (by omega)
              · obtain rfl : j = L := by omega
                clear hjl hw3 hxl
                go_wp2_with fail
                go_roundg (N - (k + 1))
                case measure => have := HGK.out; omega
                case rel =>
                  refine ⟨k + 1, ps3, rfl, by omega, by go_num, HN3.out, HF3.out, ?_⟩
                  intro q p hq hqk
                  by_cases hqk2 : q = k
                  · subst hqk2
                    rw [HP3.out] at hq
                    obtain rfl := Option.some.inj hq
                    refine ⟨HX3.out, by dsimp only; rw [HL3.out]; exact hl2, fun s hs => ?_⟩
                    obtain ⟨m, hm, rfl⟩ := List.mem_iff_getElem.1 hs
                    dsimp only at hm
                    exact HSM.out m _ (List.getElem?_eq_getElem hm) (by have := HL3.out; omega)
                  · exact HD3.out q p hq (by omega)
      · obtain rfl : k = N := by omega
        clear hfw hpn
        go_wp2_with fail
        go_meet
        exact ⟨ps, HPL.out, HFO.out, HDI.out⟩
  case rest =>
    obtain ⟨ps, hpn, hfw, hdi⟩ := hcut
    have HFW := hid hfw
    have HPN := hid hpn
    have HDI := hid hdi
    clear hfw hpn hdi
    rename World => wi
    go_upto_block 4 with fail
    go_cut [6, 7] (fun _ _ wx => ∃ os, os.length = M ∧ FW w X ver lock (.slice ai N ci) (.slice ao M co) ps os wx ∧ DoneOut M os)
    case first =>
      go_wp2_with fail
      go_loopg [6, 7] M (fun g i _ wr => ∃ (k : Nat) (os : List POut), g = M - k ∧ k ≤ M ∧ i = .int .i64 k ∧ os.length = M ∧ FW w X ver lock (.slice ai N ci) (.slice ao M co) ps os wr ∧ DoneOut k os)
      case atStart => exact ⟨0, outs, by omega, by omega, rfl, HOM.out, HFW.out, fun j p _ h => by omega⟩
      case round =>
        rename World => wo
        obtain ⟨k, os, hgk, hkn, rfl, hpn, hfw, hdi⟩ := hrel
        have cu : wo.cell? ⟨X, 2, none⟩ = some (.slice ao M co) := cell_at hfw.u
        have hN8 := HN.out.2
        have HGK := hid hgk
        have HDO := hid hdi
        have HPL := hid hpn
        have HFO := hid hfw
        clear hgk hdi HFW
        by_cases hlt : k < M
        · obtain ⟨x, hpk⟩ : ∃ p, os[k]? = some p := ⟨_, List.getElem?_eq_getElem (by omega)⟩
          obtain ⟨b, rfl, -, -, d0, d1⟩ := hfw.outs.at hpk
          have hv1 := (hfw.outs.ok x (List.mem_of_getElem? hpk)).1
          have hs1 : x.script.size ≤ 9223372036854775807 := (hfw.outs.ok x (List.mem_of_getElem? hpk)).2
          have f0 := ownsRow_free hfw.outs.row (k * 2)
          have HPK := hid hpk
          clear hfw hpk hpn
          obtain ⟨val, script⟩ := x
          dsimp only at d0 d1 hv1 hs1
          have hb1 : -100000000000000 < val.tmod 100000000000000 ∧ val.tmod 100000000000000 < 100000000000000 := by
            by_cases h : val < 0
            · have e : val.tmod 100000000000000 = -((-val) % 100000000000000) := by
                rw [← Int.tmod_eq_emod_of_nonneg (by omega : 0 ≤ -val), Int.neg_tmod]; omega
              rw [e]
              have := Int.emod_nonneg (-val) (by decide : (100000000000000 : Int) ≠ 0)
              have := Int.emod_lt_of_pos (-val) (by decide : (0 : Int) < 100000000000000)
              omega
            · rw [Int.tmod_eq_emod_of_nonneg (by omega)]
              have := Int.emod_nonneg val (by decide : (100000000000000 : Int) ≠ 0)
              have := Int.emod_lt_of_pos val (by decide : (0 : Int) < 100000000000000)
              omega
          clear HFW
          go_upto_if 119 with fail
          generalize val.tmod 100000000000000 = y at *
          go_cut [7] (fun s7 wx => ∃ z : Int, s7 = .int .i64 z ∧ (0 ≤ z ∧ z < 100000000000000) ∧ wx = wo)
          case first =>
            by_cases hy : y < 0
            · go_wp2_with fail
              go_meet
              exact ⟨-y, rfl, by omega, rfl⟩
            · go_wp2_with fail
              go_meet
              exact ⟨y, rfl, by omega, rfl⟩
          case rest =>
            obtain ⟨z, rfl, hz, hwx⟩ := hcut
            subst hwx
            rename World => wp
            have hf2 := HFO.out.setOut (x' := ⟨z, script⟩) HPK.out 0 (.int .i64 z) (by omega) rfl ⟨by dsimp only; omega, by rw [maxLen_eq]; exact hs1⟩
            rw [Nat.add_zero] at hf2
            have HZ := hid hz
            clear hb1 hv1 hz
            go_upto_region 21 with fail
            generalize wp.setCell ⟨b, k * 2, none⟩ (.int .i64 z) = wq at *
            have hpk2 : (os.set k ⟨z, script⟩)[k]? = some ⟨z, script⟩ := List.getElem?_set_self (by rw [HPL.out]; exact hlt)
            have hdo2 := HDO.out.set ⟨z, script⟩
            have hpl2 : (os.set k ⟨z, script⟩).length = M := by rw [List.length_set]; exact HPL.out
            generalize os.set k ⟨z, script⟩ = os2 at *
            obtain ⟨b', e, -, -, -, d2⟩ := hf2.outs.at hpk2
            obtain rfl : b = b' := by simpa using e
            dsimp only at d2
            have cu2 : wq.cell? ⟨X, 2, none⟩ = some (.slice (some ⟨b, 0, none⟩) M co) := cell_at hf2.u
            have f2 := ownsRow_free hf2.outs.row (k * 2 + 1)
            have HF2 := hid hf2
            have HPK2 := hid hpk2
            have HDO2 := hid hdo2
            have HPL2 := hid hpl2
            clear hf2 hpk2 hdo2 hpl2 cu d0 d1 f0 e HFO HPK HDO HPL
            go_upto_if 135 with fail
            by_cases h40 : 40 < script.size
            · go_wp2_with fail
              go_region
              all_goals go_wp2_with fail
              all_goals
                go_roundg (M - (k + 1))
                case measure => have := HGK.out; omega
                case rel =>
                  exact ⟨k + 1, os2.set k ⟨z, script.extract 0 40⟩, rfl, by omega, by go_num, by rw [List.length_set]; exact HPL2.out, (HF2.out.next (Below.refl _ _).drew).setOut (x' := ⟨z, script.extract 0 40⟩) HPK2.out 1 (.string (script.extract 0 40)) (by omega) rfl ⟨((HF2.out.outs.ok _ (List.mem_of_getElem? HPK2.out)).1), by simp [ByteArray.size_extract]; rw [maxLen_eq]; omega⟩, HDO2.out.step ⟨HZ.out, by simp [ByteArray.size_extract]; omega⟩⟩
            · go_wp2_with fail
              go_roundg (M - (k + 1))
              case measure => have := HGK.out; omega
              case rel =>
                refine ⟨k + 1, os2, rfl, by omega, by go_num, HPL2.out, HF2.out, ?_⟩
                have hst := HDO2.out.step (p := ⟨z, script⟩) ⟨HZ.out, by dsimp only; omega⟩
                rw [set_same HPK2.out] at hst
                exact hst
        · obtain rfl : k = M := by omega
          clear hfw hpn
          go_wp2_with fail
          go_meet
          exact ⟨os, HPL.out, HFO.out, HDO.out⟩
    case rest =>
      obtain ⟨os, hon, hfw, hdo⟩ := hcut
      rename World => wz
      have u0 : wz.cell? ⟨X, 0, none⟩ = some (.int .u32 ver) := cell_at hfw.u
      have u1 : wz.cell? ⟨X, 1, none⟩ = some (.slice ai N ci) := cell_at hfw.u
      have u2 : wz.cell? ⟨X, 2, none⟩ = some (.slice ao M co) := cell_at hfw.u
      have u3 : wz.cell? ⟨X, 3, none⟩ = some (.int .u32 lock) := cell_at hfw.u
      have r0 : wz.cell? ⟨w.heap.size + 1, 0, none⟩ = some (.int .u32 0) := cell_at hfw.r
      have r1 : wz.cell? ⟨w.heap.size + 1, 1, none⟩ = some (.slice none 0 0) := cell_at hfw.r
      have r2 : wz.cell? ⟨w.heap.size + 1, 2, none⟩ = some (.slice none 0 0) := cell_at hfw.r
      have r3 : wz.cell? ⟨w.heap.size + 1, 3, none⟩ = some (.int .u32 0) := cell_at hfw.r
      have f0 : wz.frozen? ⟨w.heap.size + 1, 0, none⟩ = false := free_at hfw.r
      have f1 : wz.frozen? ⟨w.heap.size + 1, 1, none⟩ = false := free_at hfw.r
      have f2 : wz.frozen? ⟨w.heap.size + 1, 2, none⟩ = false := free_at hfw.r
      have f3 : wz.frozen? ⟨w.heap.size + 1, 3, none⟩ = false := free_at hfw.r
      have HFZ := hid hfw
      have HON := hid hon
      have HDO := hid hdo
      clear hfw hon hdo HFW
      go_wp2
      exact bodyPost_ret (v := .agg #[.int .u32 ver, .slice ai N ci, .slice ao M co, .int .u32 lock]) (by simp [results, Tryz.results37, go_sem, r0, r1, r2, r3]) rfl
        (fit_is HFZ.out HV.out (by rw [HPN.out]; exact HDI.out) (by rw [HON.out]; exact HDO.out) (by rw [HPN.out, HON.out]; exact HN.out) (fun b hb => by
          rw [Below.heap_setCell _ _ _ _ (by dsimp only; omega), Below.heap_setCell _ _ _ _ (by dsimp only; omega), Below.heap_setCell _ _ _ _ (by dsimp only; omega), Below.heap_setCell _ _ _ _ (by dsimp only; omega)])
          ((((HFZ.out.bel.setCell (by dsimp only; omega) _).setCell (by dsimp only; omega) _).setCell (by dsimp only; omega) _).setCell (by dsimp only; omega) _))
end Go.Proofs.YtaooibocknemkaaGreat
