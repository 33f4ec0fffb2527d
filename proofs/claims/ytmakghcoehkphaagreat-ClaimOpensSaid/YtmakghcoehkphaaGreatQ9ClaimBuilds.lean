/-
  ClaimBuilds, part 9: the texts Kq2, Kr, one after another. Conditions: none beyond those named at each.
-/
import Derived.Test.YtmakghcoehkphaaGreatKq
import Derived.Test.YtmakghcoehkphaaGreatKg
import Derived.Maps.OwnSet
import Derived.Maps.OwnOps
import Derived.Maps.Ext
section
/-
  The stable sort of up to twenty claims. Conditions: the claims lie in a row of the call's own.
-/
namespace Go.Proofs.YtmakghcoehkphaaGreat
open Go.RowKit Go.BigFrame
set_option linter.unusedVariables false
set_option linter.unusedSimpArgs false

set_option maxRecDepth 100000 in
set_option maxHeartbeats 4000000 in
theorem insort_none (b n c : Nat) (w : World) (hn2 : n ≤ 1000) : Calls Tryz.prog 121 #[.slice (some ⟨b, 0, none⟩) n c, .int .i64 n, .int .i64 n, .func (.func 50) #[] #[]] w fun e w' => e = .returned (.tuple #[]) ∧ w = w' := by
  have hs : IntKind.i64.wrap ((n : Int) + 1) = (n : Int) + 1 := by rw [IntKind.wrap_i64]; omega
  have hlt : decide ((n : Int) + 1 < (n : Int)) = false := decide_eq_false (by omega)
  go_enter Tryz.func121, Tryz.ntmps121
  go_wp2_with fail
  go_loopg [8] 0 (fun g i wr => g = 0 ∧ i = .int .i64 ((n : Int) + 1) ∧ w = wr)
  case atStart => exact ⟨rfl, rfl, rfl⟩
  case round =>
    rename World => wo
    obtain ⟨-, rfl, rfl⟩ := hrel
    go_wp2_with fail
    exact bodyPost_end (v := .tuple #[]) (by kernel_rfl) rfl ⟨rfl, rfl⟩
set_option maxRecDepth 100000 in
set_option maxHeartbeats 4000000 in
theorem stable_any (base b n c : Nat) (l : List PCl) (w : World) (hl : ClsOwn base w (.slice (some ⟨b, 0, none⟩) n c) l) (hn : n = l.length) (hn2 : n ≤ 20) :
    Calls Tryz.prog 83 #[.slice (some ⟨b, 0, none⟩) n c, .int .i64 n, .func (.func 50) #[] #[]] w (SortIs base b n c l w) := by
  have HI := Lib.hid (insort_any base b n c l w hl hn (by omega))
  have HZ := Lib.hid (insort_none b n c)
  have HL := Lib.hid hl
  clear hl hn
  go_enter Tryz.func83, Tryz.ntmps83
  go_wp2_with fail
  by_cases h20 : n = 20
  · subst h20
    go_loopg [7, 8] 1 (fun g a z wr => (g = 1 ∧ a = .int .i64 0 ∧ z = .int .i64 20 ∧ w = wr) ∨ (g = 0 ∧ a = .int .i64 20 ∧ z = .int .i64 40 ∧ SortIs base b 20 c l w (.returned (.tuple #[])) wr))
    case atStart => exact .inl ⟨rfl, rfl, rfl, rfl⟩
    case round =>
      rename World => wo
      rcases hrel with ⟨hg, rfl, rfl, rfl⟩ | ⟨hg, rfl, rfl, hs⟩
      · have HG := Lib.hid hg
        clear hg
        go_wp2_with fail
        refine HI.out.mono ?_
        rintro e w1 ⟨rfl, h1, h2⟩
        have HS := Lib.hid (show SortIs base b 20 c l w (.returned (.tuple #[])) w1 from ⟨rfl, h1, h2⟩)
        clear h1 h2
        go_wp2_with fail
        go_roundg 0
        case measure => have := HG.out; omega
        case rel => exact .inr ⟨rfl, by go_num, by go_num, HS.out⟩
      · have HS := Lib.hid hs
        clear hg hs HI
        go_wp2_with fail
        refine (HZ.out wo (by omega)).mono ?_
        rintro e w1 ⟨rfl, rfl⟩
        go_wp2_with fail
        go_loopg [6] 0 (fun g a wr => g = 0 ∧ a = .int .i64 20 ∧ wo = wr)
        case atStart => exact ⟨rfl, rfl, rfl⟩
        case round =>
          obtain ⟨-, rfl, rfl⟩ := hrel
          go_wp2_with fail
          exact bodyPost_end (v := .tuple #[]) (by kernel_rfl) rfl HS.out
  · have hlt : n < 20 := by omega
    have hd : decide ((20 : Int) ≤ (n : Int)) = false := decide_eq_false (by omega)
    go_loopg [7, 8] 0 (fun g a z wr => g = 0 ∧ a = .int .i64 0 ∧ z = .int .i64 20 ∧ w = wr)
    case atStart => exact ⟨rfl, rfl, rfl, rfl⟩
    case round =>
      rename World => wo
      obtain ⟨-, rfl, rfl, rfl⟩ := hrel
      go_wp2_with fail
      refine HI.out.mono ?_
      rintro e w1 ⟨rfl, h1, h2⟩
      have HS := Lib.hid (show SortIs base b n c l w (.returned (.tuple #[])) w1 from ⟨rfl, h1, h2⟩)
      clear h1 h2
      go_wp2_with fail
      go_loopg [6] 0 (fun g a wr => g = 0 ∧ a = .int .i64 20 ∧ w1 = wr)
      case atStart => exact ⟨rfl, rfl, rfl⟩
      case round =>
        obtain ⟨-, rfl, rfl⟩ := hrel
        go_wp2_with fail
        exact bodyPost_end (v := .tuple #[]) (by kernel_rfl) rfl HS.out
set_option maxRecDepth 100000 in
set_option maxHeartbeats 4000000 in
theorem sortC_any (base b n c : Nat) (l : List PCl) (w : World) (hl : ClsOwn base w (.slice (some ⟨b, 0, none⟩) n c) l) (hn : n = l.length) (hn2 : n ≤ 20) :
    Calls Tryz.prog 49 #[.slice (some ⟨b, 0, none⟩) n c, .func (.func 50) #[] #[]] w (SortIs base b n c l w) := by
  have HI := Lib.hid (stable_any base b n c l w hl hn hn2)
  clear hl hn
  go_enter Tryz.func49, Tryz.ntmps49
  go_wp2_with fail
  refine HI.out.mono ?_
  rintro e w1 ⟨rfl, h1, h2⟩
  go_wp2_with fail
  exact bodyPost_end (v := .tuple #[]) (by kernel_rfl) rfl ⟨rfl, h1, h2⟩
end Go.Proofs.YtmakghcoehkphaaGreat
end

section
/-
  A map from buckets to rows of claims that the call makes. Conditions: none beyond each theorem's own.
-/
namespace Go.Proofs.YtmakghcoehkphaaGreat
open Go.RowKit Go.BigFrame Go.Maps
set_option linter.unusedVariables false
set_option linter.unusedSimpArgs false

/-- How a row reads. -/
def slElem (v : Value) : Option (DataW Unit × List MemPlace) :=
  match v with
  | .slice none n c => some (.agg [.lit (.int .i64 n), .lit (.int .i64 c)], [])
  | .slice (some ⟨b, o, none⟩) n c => some (.agg [.lit (.int .i64 b), .lit (.int .i64 o), .lit (.int .i64 n), .lit (.int .i64 c)], [])
  | _ => none
def nilD : DataW Unit := .agg [.lit (.int .i64 0), .lit (.int .i64 0)]
theorem litn {a b : Nat} (h : (DataW.lit (.int .i64 (a : Int)) : DataW Unit) = .lit (.int .i64 (b : Int))) : a = b := by
  injection h with h
  injection h with _ h
  omega
theorem slElem_inj {u v : Value} {d : DataW Unit} {ps qs : List MemPlace} (h1 : slElem u = some (d, ps)) (h2 : slElem v = some (d, qs)) : u = v := by
  unfold slElem at h1 h2
  split at h1
  · cases h1
    split at h2
    · simp only [Option.some.injEq, Prod.mk.injEq, DataW.agg.injEq, List.cons.injEq, and_true] at h2
      obtain ⟨⟨e1, e2⟩, -⟩ := h2
      rw [litn e1, litn e2]
    · simp at h2
    · cases h2
  · cases h1
    split at h2
    · simp at h2
    · simp only [Option.some.injEq, Prod.mk.injEq, DataW.agg.injEq, List.cons.injEq, and_true] at h2
      obtain ⟨⟨e1, e2, e3, e4⟩, -⟩ := h2
      rw [litn e1, litn e2, litn e3, litn e4]
    · cases h2
  · cases h1
theorem slElem_own {w : World} {base e size n : Nat} {v : Value} {xs : List Value} (h : w.ownsRow base e size v n xs) : ∃ d, slElem v = some (d, []) := by
  rcases h.2 with ⟨rfl, -⟩ | ⟨g, cap, cur, rfl, -⟩
  · exact ⟨_, rfl⟩
  · exact ⟨_, rfl⟩
theorem lawK : Keyed Tryz.prog 3 := int_keyed Tryz.underlying3
theorem zeroK (w : World) : (zeroValue 22).run Tryz.prog w = .ok (.slice none 0 0) w := by kernel_rfl
theorem keyK {k : Int} (hk : -1 ≤ k ∧ k ≤ 1000000) : keyOf Tryz.prog 3 (.int .i64 k) = some (.int .i64 k) := keyOf_int_mk Tryz.underlying3 (by simp [Lit.wf, IntKind.min, IntKind.max, IntKind.signed, IntKind.bits]; omega)
structure SlM (w : World) (B : Nat) (V : Int → Value) (cn : Nat) : Prop where
  owns : ∃ n, ∃ D : DataW Unit, w.ownsMap Tryz.prog 3 slElem B n D ∧ n ≤ cn ∧ IsMap D ∧ ∀ k : Int, ∃ d, slElem (V k) = some (d, []) ∧ D.atKey (.int .i64 k) nilD = d
theorem SlM.made (w : World) : SlM (w.alloc (.map #[] 0)) w.heap.size (fun _ => .slice none 0 0) 0 := ⟨0, _, World.ownsMap_made w _ _ _, Nat.le_refl _, isMap_empty, fun k => ⟨nilD, rfl, rfl⟩⟩
section
variable {w w' : World} {B cn : Nat} {V : Int → Value}
theorem SlM.lt (h : SlM w B V cn) : B < w.heap.size := by
  obtain ⟨n, D, hown, -⟩ := h.owns
  exact hown.lt
theorem SlM.kept (h : SlM w B V cn) (hk : w'.heap[B]? = w.heap[B]?) : SlM w' B V cn := by
  obtain ⟨n, D, hown, hn, hD, hat⟩ := h.owns
  obtain ⟨es, clock, hb, F, hs, rfl⟩ := hown
  exact ⟨n, _, ⟨es, clock, hk.trans hb, F, hs, rfl⟩, hn, hD, hat⟩
theorem SlM.more (h : SlM w B V cn) : SlM w B V (cn + 1) := let ⟨n, D, h1, h2, h3⟩ := h.owns; ⟨n, D, h1, Nat.le_succ_of_le h2, h3⟩
theorem SlM.below (h : SlM w B V cn) (hb : Below w.heap.size w w') : SlM w' B V cn := h.kept (hb.block B h.lt)
set_option maxRecDepth 100000 in
theorem SlM.look (h : SlM w B V cn) {k : Int} (hk : -1 ≤ k ∧ k ≤ 1000000) : (Instr.lookup 90 (.map (some B)) (.int .i64 k) false).run Tryz.prog w = .ok (V k) w := by
  obtain ⟨n, D, hown, hn, hD, hat⟩ := h.owns
  obtain ⟨v, ps, hrun, hv⟩ := hown.lookup lawK Tryz.underlying90 (zeroK w) (zd := nilD) (zp := []) rfl (keyK hk)
  obtain ⟨d, h1, h2⟩ := hat k
  rw [h2] at hv
  rw [hrun, slElem_inj hv h1]
set_option maxRecDepth 100000 in
theorem SlM.put (h : SlM w B V cn) {k : Int} {v : Value} {d : DataW Unit} (hk : -1 ≤ k ∧ k ≤ 1000000) (hv : slElem v = some (d, [])) (hc : cn < 1000000) :
    ∃ w', (Instr.mapUpdate 90 (.map (some B)) (.int .i64 k) v).run Tryz.prog w = .ok () w' ∧ SlM w' B (fun j => if j = k then v else V j) (cn + 1) ∧ w.grownBy w' (some B) := by
  obtain ⟨n, D, hown, hn, hD, hat⟩ := h.owns
  obtain ⟨w', hrun, hown2, hg⟩ := hown.update lawK Tryz.underlying90 (by unfold maxLen; omega) (keyK hk) hv
  refine ⟨w', hrun, ⟨n + 1, _, hown2, Nat.succ_le_succ hn, hown2.isMap, fun j => ?_⟩, hg⟩
  by_cases hj : j = k
  · subst hj
    exact ⟨d, by rw [if_pos rfl]; exact hv, by rw [atKey_put_same hD (by trivial)]⟩
  · obtain ⟨d', h1, h2⟩ := hat j
    exact ⟨d', by rw [if_neg hj]; exact h1, by rw [atKey_put_other (by intro e; injection e with _ e; omega)]; exact h2⟩
end
/-! ### the rows -/
def filt (l : List PCl) (j : Int) : List PCl := l.filter fun c => decide (bkC c = j)
theorem filt_snoc (l : List PCl) (c : PCl) (j : Int) : filt (l ++ [c]) j = if bkC c = j then filt l j ++ [c] else filt l j := by
  unfold filt
  rw [List.filter_append]
  by_cases e : bkC c = j
  · rw [if_pos e, List.filter_cons_of_pos (by simpa using e), List.filter_nil]
  · rw [if_neg e, List.filter_cons_of_neg (by simpa using e), List.filter_nil, List.append_nil]
theorem filt_len (l : List PCl) (j : Int) : (filt l j).length ≤ l.length := List.length_filter_le _ _
def bksOf (l : List PCl) : List Int := onceI ((l.map bkC).filter fun b => decide (0 ≤ b))
theorem bks_snoc (l : List PCl) (c : PCl) : bksOf (l ++ [c]) = if 0 ≤ bkC c ∧ bkC c ∉ bksOf l then bksOf l ++ [bkC c] else bksOf l := by
  unfold bksOf
  rw [List.map_append, List.filter_append]
  by_cases h : 0 ≤ bkC c
  · rw [show List.filter (fun b => decide (0 ≤ b)) (List.map bkC [c]) = [bkC c] by simp [h]]
    unfold onceI
    rw [List.foldl_append]
    simp only [List.foldl_cons, List.foldl_nil]
    by_cases h2 : bkC c ∈ List.foldl (fun out b => if b ∈ out then out else out ++ [b]) [] (List.filter (fun b => decide (0 ≤ b)) (List.map bkC l))
    · rw [if_pos h2, if_neg (fun q => q.2 h2)]
    · rw [if_neg h2, if_pos ⟨h, h2⟩]
  · rw [show List.filter (fun b => decide (0 ≤ b)) (List.map bkC [c]) = [] by simp [h], List.append_nil, if_neg (fun q => h q.1)]
theorem bks_mem (l : List PCl) (b : Int) : b ∈ bksOf l ↔ 0 ≤ b ∧ filt l b ≠ [] := by
  unfold bksOf
  rw [onceI_mem, List.mem_filter, List.mem_map]
  constructor
  · rintro ⟨⟨c, hc, rfl⟩, h⟩
    refine ⟨by simpa using h, fun e => ?_⟩
    have : c ∈ filt l (bkC c) := List.mem_filter.2 ⟨hc, by simp⟩
    rw [e] at this
    cases this
  · rintro ⟨h1, h2⟩
    obtain ⟨c, hc⟩ := List.exists_mem_of_ne_nil _ h2
    obtain ⟨h3, h4⟩ := List.mem_filter.1 hc
    exact ⟨⟨c, h3, by simpa using h4⟩, by simpa using h1⟩
theorem bks_len (l : List PCl) : (bksOf l).length ≤ l.length := by
  have h := rising_len (l.map bkC)
  unfold rising at h
  rw [(isort_perm _).length_eq, List.length_map] at h
  exact h
theorem merge_isort (bs : List Int) (h : bs.Nodup) : bs.mergeSort (fun x y => decide (x ≤ y)) = isort ltI bs := by
  refine List.Perm.eq_of_pairwise (le := fun x y : Int => x ≤ y) (fun a b _ _ h1 h2 => by omega) ?_ ?_ ((List.mergeSort_perm _ _).trans (isort_perm bs).symm)
  · have := List.pairwise_mergeSort (le := fun x y : Int => decide (x ≤ y)) (by intro a b c; simp; omega) (by intro a b; simp; omega) bs
    simpa using this
  · refine (isort_asc weakI bs).imp fun {a b} h => ?_
    simp [ltI] at h
    omega
end Go.Proofs.YtmakghcoehkphaaGreat
end
