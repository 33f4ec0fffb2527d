/-
  Transactions as plain data, and how they lie in memory. Conditions: none beyond each lemma's own.
-/
import Derived.Test.YtfkcldaogfengaaRep
namespace Go.Proofs.Ytfkcldaogfengaa
open Go.RowKit
set_option linter.unusedVariables false

theorem SlAt.at {α : Type} {R : Rp α} {w : World} {a : Option Addr} {n c i : Nat} {xs : List α} (h : SlAt R w (.slice a n c) xs) (hi : i < n) : ∃ b o x cs, a = some ⟨b, o, none⟩ ∧ xs[i]? = some x ∧ cs.length = R.size ∧
    (∀ j u, cs[j]? = some u → w.cell? ⟨b, o + i * R.size + j, none⟩ = some u) ∧ R.at_ w cs x := by
  obtain ⟨a', c', h1, h2, h3, h4⟩ := h
  obtain ⟨rfl, rfl, rfl⟩ : a = a' ∧ n = xs.length ∧ c = c' := by simpa using h1
  obtain ⟨b, o, cs, h5, h6, h7, h8⟩ := h4 i xs[i] (List.getElem?_eq_getElem hi)
  exact ⟨b, o, _, cs, h5, List.getElem?_eq_getElem hi, h6, h7, h8⟩
theorem SlAt.len {α : Type} {R : Rp α} {w : World} {a : Option Addr} {n c : Nat} {xs : List α} (h : SlAt R w (.slice a n c) xs) : xs.length = n ∧ n ≤ c ∧ c ≤ maxLen := by
  obtain ⟨a', c', h1, h2, h3, _⟩ := h
  obtain ⟨rfl, rfl, rfl⟩ : a = a' ∧ n = xs.length ∧ c = c' := by simpa using h1
  exact ⟨rfl, h2, h3⟩

theorem sl_nil {α : Type} {R : Rp α} {w : World} : SlAt R w (.slice none 0 0) [] := ⟨none, 0, rfl, Nat.le_refl _, Nat.zero_le _, fun i x h => by simp at h⟩
theorem SlAt.str {w : World} {a : Option Addr} {n c i : Nat} {xs : List ByteArray} (h : SlAt rpStr w (.slice a n c) xs) (hi : i < n) : ∃ (b o : Nat) (x : ByteArray), a = some ⟨b, o, none⟩ ∧ xs[i]? = some x ∧ x.size ≤ 9223372036854775807 ∧
    w.cell? ⟨b, o + i, none⟩ = some (.string x) := by
  obtain ⟨b, o, x, cs, h1, h2, h3, h4, h5, h6⟩ := h.at hi
  subst h5
  refine ⟨b, o, x, h1, h2, h6, ?_⟩
  have := h4 0 _ rfl
  simpa [rpStr] using this

theorem SlAt.cut {α : Type} {R : Rp α} {w : World} {a : Option Addr} {n m c : Nat} {xs : List α} (h : SlAt R w (.slice a n c) xs) (hm : m ≤ n) : SlAt R w (.slice a m c) (xs.take m) := by
  obtain ⟨hl, h2, h3⟩ := h.len
  have hlm : (xs.take m).length = m := by rw [List.length_take]; omega
  refine ⟨a, c, by rw [hlm], by omega, h3, fun i x hi => ?_⟩
  have him : i < m := by have := (List.getElem?_eq_some_iff.1 hi).1; omega
  rw [List.getElem?_take_of_lt him] at hi
  obtain ⟨b, o, y, cs, h5, h6, h7, h8, h9⟩ := h.at (i := i) (by omega)
  rw [hi] at h6
  obtain rfl : x = y := Option.some.inj h6
  exact ⟨b, o, cs, h5, h7, h8, h9⟩

/-- An input, an output, a transaction, as plain data. -/
structure PIn where
  id : ByteArray
  idx : Nat
  seq : Nat
  wit : List ByteArray
structure POut where
  val : Int
  script : ByteArray
structure PTx where
  ver : Nat
  ins : List PIn
  outs : List POut
  lock : Nat
def rpIn : Rp PIn := ⟨4, fun w cs x => ∃ wv, cs = [.string x.id, .int .u32 x.idx, .int .u32 x.seq, wv] ∧ SlAt rpStr w wv x.wit ∧ x.id.size ≤ maxLen ∧ x.idx < 4294967296 ∧ x.seq < 4294967296,
  fun hw ⟨wv, h1, h2, h3⟩ => ⟨wv, h1, h2.mono hw, h3⟩⟩
def rpOut : Rp POut := ⟨2, fun _ cs x => cs = [.int .i64 x.val, .string x.script] ∧ (-9223372036854775808 ≤ x.val ∧ x.val ≤ 9223372036854775807) ∧ x.script.size ≤ maxLen, fun _ h => h⟩
def TxAt (w : World) (v : Value) (t : PTx) : Prop := ∃ a b, v = .agg #[.int .u32 t.ver, a, b, .int .u32 t.lock] ∧ SlAt rpIn w a t.ins ∧ SlAt rpOut w b t.outs ∧ t.ver < 4294967296 ∧ t.lock < 4294967296
theorem TxAt.mono {w w' : World} {v : Value} {t : PTx} (h : TxAt w v t) (hw : ∀ p v, w.cell? p = some v → w'.cell? p = some v) : TxAt w' v t :=
  let ⟨a, b, h1, h2, h3, h4⟩ := h; ⟨a, b, h1, h2.mono hw, h3.mono hw, h4⟩
theorem TxAt.below {w w' : World} {v : Value} {t : PTx} (h : TxAt w v t) (hb : Below w.heap.size w w') : TxAt w' v t := h.mono (below_cells hb)

theorem SlAt.inp {w : World} {a : Option Addr} {n c i : Nat} {xs : List PIn} (h : SlAt rpIn w (.slice a n c) xs) (hi : i < n) : ∃ (b o : Nat) (x : PIn) (wv : Value), a = some ⟨b, o, none⟩ ∧ xs[i]? = some x ∧ x.seq < 4294967296 ∧ x.idx < 4294967296 ∧ x.id.size ≤ 9223372036854775807 ∧
    SlAt rpStr w wv x.wit ∧ w.cell? ⟨b, o + i * 4, none⟩ = some (.string x.id) ∧ w.cell? ⟨b, o + i * 4 + 1, none⟩ = some (.int .u32 x.idx) ∧ w.cell? ⟨b, o + i * 4 + 2, none⟩ = some (.int .u32 x.seq) ∧ w.cell? ⟨b, o + i * 4 + 3, none⟩ = some wv := by
  obtain ⟨b, o, x, cs, h1, h2, h3, h4, wv, h5, h6, h7, h8, h9⟩ := h.at hi
  subst h5
  exact ⟨b, o, x, wv, h1, h2, h9, h8, h7, h6, h4 0 _ rfl, h4 1 _ rfl, h4 2 _ rfl, h4 3 _ rfl⟩

theorem cell_over {w : World} {p : Addr} {v : Value} (h : w.cell? p = some v) (ob : Obj) : (w.alloc ob).cell? p = some v :=
  below_cells ((Below.refl _ _).alloc (Nat.le_refl _) ob) p v h

theorem tx_in {w : World} {v : Value} {t : PTx} {i : Nat} (h : TxAt w v t) (hi : i < t.ins.length) : ∃ (b o n c : Nat) (au : Option Addr) (nu cu : Nat) (x : PIn) (wv : Value), v = .agg #[.int .u32 t.ver, .slice (some ⟨b, o, none⟩) n c, .slice au nu cu, .int .u32 t.lock] ∧ n = t.ins.length ∧ n ≤ 9223372036854775807 ∧
    t.ins[i]? = some x ∧ x.seq < 4294967296 ∧ t.ver < 4294967296 ∧ t.lock < 4294967296 ∧ SlAt rpStr w wv x.wit ∧ w.cell? ⟨b, o + i * 4 + 2, none⟩ = some (.int .u32 x.seq) ∧ w.cell? ⟨b, o + i * 4 + 3, none⟩ = some wv := by
  obtain ⟨a, u, rfl, h1, h2, h3, h4⟩ := h
  obtain ⟨au, cu, rfl, -, -⟩ := h2.shape
  obtain ⟨a', c, rfl, hl1, hl2⟩ := h1.shape
  obtain ⟨b, o, x, wv, rfl, hx, h5, -, -, h6, -, -, h7, h8⟩ := h1.inp hi
  exact ⟨b, o, _, c, au, _, cu, x, wv, rfl, rfl, by rw [maxLen_eq] at hl2; omega, hx, h5, h3, h4, h6, h7, h8⟩
theorem wf_u16 {n : Int} (h : (Lit.int .u16 n).wf = true) : 0 ≤ n ∧ n ≤ 65535 := by simpa [Lit.wf, IntKind.min, IntKind.max, IntKind.signed, IntKind.bits] using h
theorem wf_u32 {n : Int} (h : (Lit.int .u32 n).wf = true) : 0 ≤ n ∧ n ≤ 4294967295 := by simpa [Lit.wf, IntKind.min, IntKind.max, IntKind.signed, IntKind.bits] using h
theorem wf_i64 {n : Int} (h : (Lit.int .i64 n).wf = true) : -9223372036854775808 ≤ n ∧ n ≤ 9223372036854775807 := by simpa [Lit.wf, IntKind.min, IntKind.max, IntKind.signed, IntKind.bits] using h


section
open Go.ChangeShapes Go.WideShapes
variable {H : Type} {enc : TypeId × Value → H} {w : World} {spare : Nat → Bool} {held : Bool}

set_option maxRecDepth 100000 in
theorem rp_of_point {fuel : Nat} {cs : List Value} {y : DataW H × List MemPlace} (h : DataW.trod enc Try.prog w 0 spare held fuel 63 cs = some y) : ∃ (s : ByteArray) (n : Nat), cs = [.string s, .int .u32 n] ∧ s.size ≤ maxLen ∧ n < 4294967296 := by
  obtain ⟨xs, n, _, _, hl, hlen, hf⟩ := DataW.trod_struct Try.underlying63 h
  have hc : Try.prog.cellsOf 63 = 2 := by kernel_rfl
  rw [hc] at hl
  match cs, hl with
  | [c0, c1], _ =>
    have hlen' : xs.length = 2 := hlen
    have g0 := hf 0 _ rfl
    have g1 := hf 1 _ rfl
    rw [List.getElem?_eq_getElem (by omega)] at g0 g1
    obtain ⟨n0, e0, w0⟩ := rp_of_str Try.underlying9 g0
    obtain ⟨n1, e1, w1⟩ := rp_of_int Try.underlying37 g1
    have k0 : Try.prog.cellsOf 9 = 1 := by kernel_rfl
    have k1 : Try.prog.cellsOf 37 = 1 := by kernel_rfl
    have e0' : ([c0, c1].drop 0).take (Try.prog.cellsOf 9) = [.string n0] := e0
    have e1' : ([c0, c1].drop 1).take (Try.prog.cellsOf 37) = [.int .u32 n1] := e1
    rw [k0] at e0'
    rw [k1] at e1'
    have f0 : c0 = .string n0 := by simpa using e0'
    have f1 : c1 = .int .u32 n1 := by simpa using e1'
    have b1 : 0 ≤ n1 ∧ n1 ≤ 4294967295 := wf_u32 w1
    refine ⟨n0, n1.toNat, ?_, w0, by omega⟩
    rw [f0, f1, show ((n1.toNat : Nat) : Int) = n1 by omega]

set_option maxRecDepth 100000 in
theorem rp_of_in {fuel : Nat} {cs : List Value} {y : DataW H × List MemPlace} (h : DataW.trod enc Try.prog w 0 spare held fuel 66 cs = some y) : ∃ x, rpIn.at_ w cs x := by
  obtain ⟨xs, n, _, _, hl, hlen, hf⟩ := DataW.trod_struct Try.underlying66 h
  have hc : Try.prog.cellsOf 66 = 4 := by kernel_rfl
  rw [hc] at hl
  match cs, hl with
  | [c0, c1, c2, c3], _ =>
    have hlen' : xs.length = 3 := hlen
    have g0 := hf 0 _ rfl
    have g1 := hf 1 _ rfl
    have g2 := hf 2 _ rfl
    rw [List.getElem?_eq_getElem (by omega)] at g0 g1 g2
    obtain ⟨n0, n1, e0, w0, w1⟩ := rp_of_point g0
    obtain ⟨n2, e2, w2⟩ := rp_of_int Try.underlying37 g1
    obtain ⟨ws, v, e3, w3⟩ := rp_of_slice (R := rpStr) Try.underlying64 (by kernel_rfl) (by decide) (fun _ _ _ => rp_of_str Try.underlying9) g2
    have k0 : Try.prog.cellsOf 63 = 2 := by kernel_rfl
    have k1 : Try.prog.cellsOf 37 = 1 := by kernel_rfl
    have k2 : Try.prog.cellsOf 64 = 1 := by kernel_rfl
    have e0' : ([c0, c1, c2, c3].drop 0).take (Try.prog.cellsOf 63) = [.string n0, .int .u32 n1] := e0
    have e2' : ([c0, c1, c2, c3].drop 2).take (Try.prog.cellsOf 37) = [.int .u32 n2] := e2
    have e3' : ([c0, c1, c2, c3].drop 3).take (Try.prog.cellsOf 64) = [v] := e3
    rw [k0] at e0'
    rw [k1] at e2'
    rw [k2] at e3'
    obtain ⟨f0, f1⟩ : c0 = .string n0 ∧ c1 = .int .u32 n1 := by simpa using e0'
    have f2 : c2 = .int .u32 n2 := by simpa using e2'
    have f3 : c3 = v := by simpa using e3'
    have b2 : 0 ≤ n2 ∧ n2 ≤ 4294967295 := wf_u32 w2
    refine ⟨⟨n0, n1, n2.toNat, ws⟩, v, ?_, w3, w0, w1, by dsimp only; omega⟩
    dsimp only
    rw [f0, f1, f2, f3, show ((n2.toNat : Nat) : Int) = n2 by omega]

set_option maxRecDepth 100000 in
theorem rp_of_out {fuel : Nat} {cs : List Value} {y : DataW H × List MemPlace} (h : DataW.trod enc Try.prog w 0 spare held fuel 73 cs = some y) : ∃ x, rpOut.at_ w cs x := by
  obtain ⟨xs, n, _, _, hl, hlen, hf⟩ := DataW.trod_struct Try.underlying73 h
  have hc : Try.prog.cellsOf 73 = 2 := by kernel_rfl
  rw [hc] at hl
  match cs, hl with
  | [c0, c1], _ =>
    have hlen' : xs.length = 2 := hlen
    have g0 := hf 0 _ rfl
    have g1 := hf 1 _ rfl
    rw [List.getElem?_eq_getElem (by omega)] at g0 g1
    obtain ⟨n0, e0, w0⟩ := rp_of_int Try.underlying3 g0
    obtain ⟨n1, e1, w1⟩ := rp_of_str Try.underlying9 g1
    have k0 : Try.prog.cellsOf 3 = 1 := by kernel_rfl
    have k1 : Try.prog.cellsOf 9 = 1 := by kernel_rfl
    have e0' : ([c0, c1].drop 0).take (Try.prog.cellsOf 3) = [.int .i64 n0] := e0
    have e1' : ([c0, c1].drop 1).take (Try.prog.cellsOf 9) = [.string n1] := e1
    rw [k0] at e0'
    rw [k1] at e1'
    have f0 : c0 = .int .i64 n0 := by simpa using e0'
    have f1 : c1 = .string n1 := by simpa using e1'
    refine ⟨⟨n0, n1⟩, ?_, wf_i64 w0, w1⟩
    dsimp only
    rw [f0, f1]

set_option maxRecDepth 100000 in
theorem rp_of_tx {fuel : Nat} {cs : List Value} {y : DataW H × List MemPlace} (h : DataW.trod enc Try.prog w 0 spare held fuel 41 cs = some y) : ∃ x, TxAt w (.agg cs.toArray) x := by
  obtain ⟨xs, n, _, _, hl, hlen, hf⟩ := DataW.trod_struct Try.underlying41 h
  have hc : Try.prog.cellsOf 41 = 4 := by kernel_rfl
  rw [hc] at hl
  match cs, hl with
  | [c0, c1, c2, c3], _ =>
    have hlen' : xs.length = 4 := hlen
    have g0 := hf 0 _ rfl
    have g1 := hf 1 _ rfl
    have g2 := hf 2 _ rfl
    have g3 := hf 3 _ rfl
    rw [List.getElem?_eq_getElem (by omega)] at g0 g1 g2 g3
    obtain ⟨n0, e0, w0⟩ := rp_of_int Try.underlying37 g0
    obtain ⟨is, v1, e1, w1⟩ := rp_of_slice (R := rpIn) Try.underlying38 (by kernel_rfl) (by decide) (fun _ _ _ => rp_of_in) g1
    obtain ⟨os, v2, e2, w2⟩ := rp_of_slice (R := rpOut) Try.underlying39 (by kernel_rfl) (by decide) (fun _ _ _ => rp_of_out) g2
    obtain ⟨n3, e3, w3⟩ := rp_of_int Try.underlying37 g3
    have k0 : Try.prog.cellsOf 37 = 1 := by kernel_rfl
    have k1 : Try.prog.cellsOf 38 = 1 := by kernel_rfl
    have k2 : Try.prog.cellsOf 39 = 1 := by kernel_rfl
    have e0' : ([c0, c1, c2, c3].drop 0).take (Try.prog.cellsOf 37) = [.int .u32 n0] := e0
    have e1' : ([c0, c1, c2, c3].drop 1).take (Try.prog.cellsOf 38) = [v1] := e1
    have e2' : ([c0, c1, c2, c3].drop 2).take (Try.prog.cellsOf 39) = [v2] := e2
    have e3' : ([c0, c1, c2, c3].drop 3).take (Try.prog.cellsOf 37) = [.int .u32 n3] := e3
    rw [k0] at e0' e3'
    rw [k1] at e1'
    rw [k2] at e2'
    have f0 : c0 = .int .u32 n0 := by simpa using e0'
    have f1 : c1 = v1 := by simpa using e1'
    have f2 : c2 = v2 := by simpa using e2'
    have f3 : c3 = .int .u32 n3 := by simpa using e3'
    have b0 : 0 ≤ n0 ∧ n0 ≤ 4294967295 := wf_u32 w0
    have b3 : 0 ≤ n3 ∧ n3 ≤ 4294967295 := wf_u32 w3
    refine ⟨⟨n0.toNat, is, os, n3.toNat⟩, v1, v2, ?_, w1, w2, by dsimp only; omega, by dsimp only; omega⟩
    dsimp only
    rw [f0, f1, f2, f3, show ((n0.toNat : Nat) : Int) = n0 by omega, show ((n3.toNat : Nat) : Int) = n3 by omega]
end

set_option maxRecDepth 100000 in
theorem open_tx {H : Type} {enc : TypeId × Value → H} {w : World} {v : Value} {d : DataW H} {ps : List MemPlace} (hv : Value.okWide Try.prog w .any 0 41 v) (h : DataW.Trod enc Try.prog w 0 (fun _ => true) true 41 v d ps) :
    ∃ t : PTx, TxAt w v t := by
  obtain ⟨cs, rfl, -⟩ := Go.WideShapes.okWide_struct Try.underlying41 hv
  obtain ⟨fuel, hf⟩ := h
  obtain ⟨x, hx⟩ := rp_of_tx hf
  exact ⟨x, by simpa [Value.cells] using hx⟩

end Go.Proofs.Ytfkcldaogfengaa
