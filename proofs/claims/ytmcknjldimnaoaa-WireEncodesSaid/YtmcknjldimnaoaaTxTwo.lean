/-
  Two transactions, one behind the other. Conditions: none.
-/
import Derived.Test.YtmcknjldimnaoaaTxH
namespace Go.Proofs.Ytmcknjldimnaoaa
open Go.RowKit Go.BigFrame
set_option linter.unusedVariables false
set_option linter.unusedSimpArgs false

theorem cut12_any (v : Value) (t : PTx) (w : World) (hv : TxAt w v t) : Calls Try.prog 17 #[v, .int .i64 12] w (CutIs 12 t w) := cut_any v t 12 w hv (by decide)
theorem cut12_len (t : PTx) : (cutTx 12 t).outs.length ≤ 1000 := by unfold cutTx; simp; omega
theorem fitted_len {t : PTx} (h : Fitted t) : t.outs.length ≤ 1000 := Nat.le_trans h.few.2 (by omega)
/-- Two transactions, one behind the other in a row of their own. -/
structure TwoTx (w : World) (L : Nat) (t1 t2 : PTx) (wr : World) : Prop where
  bel : Below w.heap.size w wr
  at_ : ∀ k, k < 2 → ∃ u a1 n1 c1 a2 n2 c2, (u = t1 ∨ u = t2) ∧ TxAt wr (.agg #[.int .u32 u.ver, .slice a1 n1 c1, .slice a2 n2 c2, .int .u32 u.lock]) u ∧
    wr.cell? ⟨L, k * 4, none⟩ = some (.int .u32 u.ver) ∧ wr.cell? ⟨L, k * 4 + 1, none⟩ = some (.slice a1 n1 c1) ∧ wr.cell? ⟨L, k * 4 + 2, none⟩ = some (.slice a2 n2 c2) ∧ wr.cell? ⟨L, k * 4 + 3, none⟩ = some (.int .u32 u.lock)
theorem TwoTx.next {w wr w' : World} {L : Nat} {t1 t2 : PTx} (h : TwoTx w L t1 t2 wr) (hb : Below wr.heap.size wr w') : TwoTx w L t1 t2 w' :=
  ⟨h.bel.trans (hb.mono h.bel.size), fun k hk => let ⟨u, a1, n1, c1, a2, n2, c2, h0, h1, h2, h3, h4, h5⟩ := h.at_ k hk
    ⟨u, a1, n1, c1, a2, n2, c2, h0, h1.below hb, below_cells hb _ _ h2, below_cells hb _ _ h3, below_cells hb _ _ h4, below_cells hb _ _ h5⟩⟩
end Go.Proofs.Ytmcknjldimnaoaa
