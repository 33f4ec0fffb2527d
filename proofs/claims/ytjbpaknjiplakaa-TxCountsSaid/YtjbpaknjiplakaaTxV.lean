/-
  TxCounts: the plain law. Conditions: those of each theorem.
-/
import Derived.Test.YtjbpaknjiplakaaTxX
namespace Go.Proofs.Ytjbpaknjiplakaa
open Go.RowKit Go.BigFrame
set_option linter.unusedVariables false
set_option linter.unusedSimpArgs false

def cntIn (k i : Nat) : PIn := ⟨idB 1, i, 0, List.replicate k ByteArray.empty⟩
def cntTx (n m k : Nat) : PTx := ⟨2, (List.range n).map (cntIn k), List.replicate m ⟨0, ByteArray.empty⟩, 0⟩
theorem idB1_ne : idB 1 ≠ zeros32 := by
  intro h
  have h1 := congrArg (fun b => b.data.toList[0]?) h
  have h2 : (idB 1).data.toList[0]? = some (UInt8.ofNat (idByte 1 0).toNat) := by simp [idB, idL]
  have h3 : zeros32.data.toList[0]? = some 0 := rfl
  have h5 : (idB 1).data.toList[0]? = zeros32.data.toList[0]? := h1
  rw [h2, h3] at h5
  have h4 : (idByte 1 0).toNat = 1 := by decide
  rw [h4] at h5
  exact absurd (Option.some.inj h5) (by decide)
theorem cnt_base (i : Nat) : isBase (idB 1) i = false := by unfold isBase; rw [decide_eq_false idB1_ne]; rfl
theorem sumA_zeros (m : Nat) : sumA 0 (List.replicate m 0) = (0, 0) := by
  induction m with
  | zero => rfl
  | succ m ih =>
    rw [List.replicate_succ, sumA]
    have : (goodA 0 && goodA (0 + 0)) = true := by decide
    rw [if_pos this]
    exact ih
theorem cnt_wits (n m k : Nat) : ((cntTx n m k).ins.any fun x => decide (4 < x.wit.length)) = (decide (0 < n) && decide (4 < k)) := by
  unfold cntTx
  simp only [List.any_map]
  by_cases h : 4 < k
  · have : ((fun x : PIn => decide (4 < x.wit.length)) ∘ cntIn k) = fun _ => true := by funext i; simp [cntIn, h]
    rw [this]
    cases n with
    | zero => rfl
    | succ n => simp [List.range_succ_eq_map, h]
  · have : ((fun x : PIn => decide (4 < x.wit.length)) ∘ cntIn k) = fun _ => false := by funext i; simp [cntIn, h]
    rw [this]
    simp [h]
theorem cnt_law (n m k : Nat) : (checkOf (cntTx n m k) = 0) ↔ (1 ≤ n ∧ n ≤ 256 ∧ 1 ≤ m ∧ m ≤ 256 ∧ k ≤ 4) := by
  have hni : (cntTx n m k).ins.length = n := by simp [cntTx]
  have hno : (cntTx n m k).outs.length = m := by simp [cntTx]
  by_cases hc : 1 ≤ n ∧ n ≤ 256 ∧ 1 ≤ m ∧ m ≤ 256
  · by_cases hk : k ≤ 4
    · have h1 : countsOf (cntTx n m k) = true := counts_of (by rw [hni, hno]; exact hc) (by rw [cnt_wits]; simp; omega)
      have h2 : longOf (cntTx n m k) = false := by
        unfold longOf
        have e1 : ((cntTx n m k).outs.any fun x => decide (40 < x.script.size)) = false := by
          rw [List.any_eq_false]; intro x hx
          unfold cntTx at hx
          have := List.eq_of_mem_replicate hx
          subst this
          decide
        have e2 : (cntTx n m k).ins.any longIn = false := by
          rw [List.any_eq_false]; intro x hx
          unfold cntTx at hx
          obtain ⟨i, -, rfl⟩ := List.mem_map.1 hx
          unfold longIn
          rw [Bool.not_eq_true, List.any_eq_false]; intro s hs
          have := List.eq_of_mem_replicate hs
          subst this
          decide
        rw [e1, e2]; rfl
      have h3 : formedOf (cntTx n m k) = true := by
        unfold formedOf
        rw [List.all_eq_true]; intro x hx
        unfold cntTx at hx
        obtain ⟨i, -, rfl⟩ := List.mem_map.1 hx
        unfold formIn
        show (decide ((idB 1).size = 32) && !(isBase (idB 1) i && _)) = true
        rw [cnt_base, decide_eq_true (idB_size 1)]
        rfl
      have h4 : dup (ptsOf (cntTx n m k)) = false := by
        apply dup_no
        unfold ptsOf cntTx
        rw [List.map_map]
        refine List.Pairwise.map _ (fun a b hab => ?_) (List.nodup_range (n := n))
        intro h
        exact hab (congrArg Prod.snd h)
      rw [check_sum h1 h2 h3 h4]
      have h5 : sumOf (cntTx n m k) = (0, 0) := by
        unfold sumOf cntTx
        rw [List.map_replicate]
        exact sumA_zeros m
      rw [h5]
      exact ⟨fun _ => ⟨hc.1, hc.2.1, hc.2.2.1, hc.2.2.2, hk⟩, fun _ => rfl⟩
    · have h1 : countsOf (cntTx n m k) = false := counts_wit (by rw [cnt_wits]; simp; omega)
      rw [check_counts h1]
      exact ⟨fun h => absurd h (by decide), fun h => absurd h.2.2.2.2 hk⟩
  · have h1 : countsOf (cntTx n m k) = false := counts_not (by rw [hni, hno]; exact hc)
    rw [check_counts h1]
    exact ⟨fun h => absurd h (by decide), fun h => absurd ⟨h.1, h.2.1, h.2.2.1, h.2.2.2.1⟩ hc⟩
end Go.Proofs.Ytjbpaknjiplakaa
