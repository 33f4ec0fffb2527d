/-
  Miner: entries and packages as plain data. Conditions: none beyond each theorem's own.
-/
import Derived.Test.YtfkcldaogfengaaTxd
import Derived.Lib.SlKeysI
namespace Go.Proofs.Ytfkcldaogfengaa
open Go.RowKit
set_option linter.unusedVariables false
set_option linter.unusedSimpArgs false

structure PE where
  tx : PTx
  id : ByteArray
  fee : Int
  size : Int
def hangsI (x : PE) (i : PIn) : Bool := decide (i.id = x.id) && decide (i.idx < x.tx.outs.length)
def hangsB (t : PTx) (x : PE) : Bool := t.ins.any (hangsI x)
/-- Of l: does the entry at i hang on that at k? -/
def edge (l : List PE) (i k : Nat) : Bool := match l[i]?, l[k]? with | some a, some b => hangsB a.tx b | _, _ => false
inductive Reach (l : List PE) (a : Nat) : Nat → Prop
  | self : Reach l a a
  | step {i k : Nat} : Reach l a i → edge l i k = true → Reach l a k
noncomputable def reachB (l : List PE) (a k : Nat) : Bool := @decide (Reach l a k) (Classical.propDecidable _)
theorem reachB_iff {l : List PE} {a k : Nat} : reachB l a k = true ↔ Reach l a k := by
  unfold reachB
  exact @decide_eq_true_iff _ (Classical.propDecidable _)
theorem edge_at {l : List PE} {i k : Nat} {x y : PE} (hi : l[i]? = some x) (hk : l[k]? = some y) : edge l i k = hangsB x.tx y := by
  unfold edge; rw [hi, hk]
theorem edge_lt {l : List PE} {i k : Nat} (h : edge l i k = true) : i < l.length ∧ k < l.length := by
  unfold edge at h
  split at h
  · rename_i a b ha hb
    exact ⟨(List.getElem?_eq_some_iff.1 ha).1, (List.getElem?_eq_some_iff.1 hb).1⟩
  · cases h
theorem reach_lt {l : List PE} {a k : Nat} (h : Reach l a k) (ha : a < l.length) : k < l.length := by
  cases h with
  | self => exact ha
  | step _ h => exact (edge_lt h).2
/-- A set that holds a, and with each what it hangs on, holds all that is reached. -/
theorem reach_in {l : List PE} {a k : Nat} {S : Nat → Prop} (ha : S a) (hc : ∀ i k, S i → edge l i k = true → S k) (h : Reach l a k) : S k := by
  induction h with
  | self => exact ha
  | step _ h ih => exact hc _ _ ih h
theorem Reach.trans {l : List PE} {a b c : Nat} (h : Reach l a b) (h2 : Reach l b c) : Reach l a c := by
  induction h2 with
  | self => exact h
  | step _ h ih => exact .step ih h

noncomputable def bundL (l : List PE) (a : Nat) (but : Nat → Bool) : List Nat := (List.range l.length).filter fun k => reachB l a k && !but k
theorem mem_bundL {l : List PE} {a k : Nat} {but : Nat → Bool} : k ∈ bundL l a but ↔ k < l.length ∧ Reach l a k ∧ but k = false := by
  unfold bundL
  rw [List.mem_filter, List.mem_range, Bool.and_eq_true, reachB_iff, Bool.not_eq_true']
theorem bundL_nodup (l : List PE) (a : Nat) (but : Nat → Bool) : (bundL l a but).Nodup := List.nodup_range.sublist List.filter_sublist
def sumS (l : List PE) (s : Int × Int) (i : Nat) : Int × Int := match l[i]? with | some x => (s.1 + x.fee, s.2 + x.size) | none => s
def feeL (l : List PE) (ps : List Nat) : Int × Int := ps.foldl (sumS l) (0, 0)
noncomputable def scoreOf (l : List PE) (taken : List Nat) (i : Nat) : Int × Int := feeL l (bundL l i fun k => taken.contains k)

/-! ### the program's road: a list that grows -/
def natI (k : Nat) : Int := (k : Int)
theorem natI_inj {a b : Nat} (h : natI a = natI b) : a = b := by unfold natI at h; omega
theorem nodup_natI {q : List Nat} (h : q.Nodup) : (q.map natI).Nodup := by
  rw [List.nodup_iff_pairwise_ne, List.pairwise_map]
  rw [List.nodup_iff_pairwise_ne] at h
  exact h.imp fun {a b} hab e => hab (natI_inj e)
theorem sorted_range (n : Nat) (p : Nat → Bool) : (((List.range n).filter p).map natI).Pairwise fun a b => leI a b = true := by
  rw [List.pairwise_map]
  refine (List.pairwise_lt_range.sublist List.filter_sublist).imp fun {a b} hab => ?_
  unfold natI
  simp only [decide_eq_true_eq]
  omega
theorem sort_range {q : List Nat} {n : Nat} {p : Nat → Bool} (hnd : q.Nodup) (h : ∀ k, k ∈ q ↔ k < n ∧ p k = true) : (q.map natI).mergeSort leI = ((List.range n).filter p).map natI := by
  have hp : q.Perm ((List.range n).filter p) := by
    refine (List.perm_ext_iff_of_nodup hnd (List.nodup_range.sublist List.filter_sublist)).2 fun k => ?_
    rw [h, List.mem_filter, List.mem_range]
  rw [mergeSort_of_perm_i (hp.map natI)]
  exact List.mergeSort_of_pairwise (sorted_range n p)
/-- What the list of the road is, when its first i have been looked at. -/
structure Road (l : List PE) (a : Nat) (q : List Nat) (i : Nat) : Prop where
  nodup : q.Nodup
  self : a ∈ q
  reach : ∀ k ∈ q, Reach l a k
  done : ∀ (j : Nat) (x : Nat), j < i → q[j]? = some x → ∀ k, edge l x k = true → k ∈ q
theorem Road.start (l : List PE) (a : Nat) : Road l a [a] 0 := ⟨by simp, by simp, fun k hk => by rw [List.mem_singleton.1 hk]; exact .self, fun j x hj => absurd hj (Nat.not_lt_zero _)⟩
theorem nodup_len {ps : List Nat} {n : Nat} (h : ps.Nodup) (hl : ∀ i ∈ ps, i < n) : ps.length ≤ n := by
  have hp : ps.Perm ((List.range n).filter fun i => ps.contains i) := by
    refine (List.perm_ext_iff_of_nodup h (List.nodup_range.sublist List.filter_sublist)).2 fun k => ?_
    rw [List.mem_filter, List.mem_range]
    constructor
    · intro hk
      exact ⟨hl k hk, by simpa using hk⟩
    · rintro ⟨-, hk⟩
      simpa using hk
  rw [hp.length_eq]
  have := List.length_filter_le (fun i => ps.contains i) (List.range n)
  rwa [List.length_range] at this
theorem Road.len {l : List PE} {a i : Nat} {q : List Nat} (h : Road l a q i) (ha : a < l.length) : q.length ≤ l.length := nodup_len h.nodup fun k hk => reach_lt (h.reach k hk) ha
/-- Within the look at x: the first k of the entries have been asked. -/
structure Look (l : List PE) (a : Nat) (q : List Nat) (i x k : Nat) : Prop where
  road : Road l a q i
  at_ : q[i]? = some x
  asked : ∀ j, j < k → edge l x j = true → j ∈ q
theorem Road.look {l : List PE} {a i x : Nat} {q : List Nat} (h : Road l a q i) (hx : q[i]? = some x) : Look l a q i x 0 := ⟨h, hx, fun j hj => absurd hj (Nat.not_lt_zero _)⟩
theorem Look.skip {l : List PE} {a i x k : Nat} {q : List Nat} (h : Look l a q i x k) (hs : k ∈ q ∨ edge l x k = false) : Look l a q i x (k + 1) := by
  refine ⟨h.road, h.at_, fun j hj he => ?_⟩
  rcases Nat.lt_or_ge j k with h1 | h1
  · exact h.asked j h1 he
  · obtain rfl : j = k := by omega
    rcases hs with hs | hs
    · exact hs
    · rw [hs] at he; cases he
theorem Look.add {l : List PE} {a i x k : Nat} {q : List Nat} (h : Look l a q i x k) (hn : k ∉ q) (he : edge l x k = true) : Look l a (q ++ [k]) i x (k + 1) := by
  have hil : i < q.length := (List.getElem?_eq_some_iff.1 h.at_).1
  have hx : (q ++ [k])[i]? = some x := by rw [List.getElem?_append_left hil]; exact h.at_
  refine ⟨⟨?_, List.mem_append_left _ h.road.self, fun y hy => ?_, fun j y hj hy m hm => ?_⟩, hx, fun j hj hej => ?_⟩
  · refine List.nodup_append.2 ⟨h.road.nodup, by simp, fun b hb c hc => ?_⟩
    rw [List.mem_singleton.1 hc]
    exact fun e => hn (e ▸ hb)
  · rcases List.mem_append.1 hy with hy | hy
    · exact h.road.reach y hy
    · rw [List.mem_singleton.1 hy]
      exact .step (h.road.reach x (List.mem_of_getElem? h.at_)) he
  · rw [List.getElem?_append_left (by omega)] at hy
    exact List.mem_append_left _ (h.road.done j y hj hy m hm)
  · rcases Nat.lt_or_ge j k with h1 | h1
    · exact List.mem_append_left _ (h.asked j h1 hej)
    · obtain rfl : j = k := by omega
      exact List.mem_append_right _ (by simp)
theorem Look.road_next {l : List PE} {a i x : Nat} {q : List Nat} (h : Look l a q i x l.length) : Road l a q (i + 1) := by
  refine ⟨h.road.nodup, h.road.self, h.road.reach, fun j y hj hy m hm => ?_⟩
  rcases Nat.lt_or_ge j i with h1 | h1
  · exact h.road.done j y h1 hy m hm
  · obtain rfl : j = i := by omega
    rw [h.at_] at hy
    cases hy
    exact h.asked m (edge_lt hm).2 hm
theorem Road.sorted {l : List PE} {a : Nat} {q : List Nat} (h : Road l a q q.length) (ha : a < l.length) : (q.map natI).mergeSort leI = ((List.range l.length).filter (reachB l a)).map natI := by
  refine sort_range h.nodup fun k => ⟨fun hk => ⟨reach_lt (h.reach k hk) ha, reachB_iff.2 (h.reach k hk)⟩, fun ⟨_, hk⟩ => ?_⟩
  refine reach_in (S := fun k => k ∈ q) h.self (fun i k hi he => ?_) (reachB_iff.1 hk)
  obtain ⟨j, hj, rfl⟩ := List.getElem_of_mem hi
  exact h.done j _ hj (List.getElem?_eq_getElem hj) k he

/-! ### the document's road: rounds over marks -/
structure Marks (l : List PE) (a : Nat) (S : List Bool) : Prop where
  len : S.length = l.length
  self : S[a]? = some true
  reach : ∀ k : Nat, S[k]? = some true → Reach l a k
def Shut (l : List PE) (S : List Bool) : Prop := ∀ i k : Nat, S[i]? = some true → edge l i k = true → S[k]? = some true
def Rnd (l : List PE) (a : Nat) (S : List Bool) (r : Nat) : Prop := Marks l a S ∧ (Shut l S ∨ r + 1 ≤ S.count true)
/-- Within a round that began at S: up to i all has been done, and of i up to k. -/
structure Mid (l : List PE) (a : Nat) (S T : List Bool) (i k : Nat) : Prop where
  marks : Marks l a T
  more : ∀ j : Nat, S[j]? = some true → T[j]? = some true
  done : ∀ j m : Nat, j < i → S[m]? = some true → edge l m j = true → T[j]? = some true
  part : ∀ m : Nat, m < k → S[m]? = some true → edge l m i = true → T[i]? = some true
theorem Marks.start {l : List PE} {a : Nat} (ha : a < l.length) : Rnd l a ((List.replicate l.length false).set a true) 0 := by
  have h1 : ((List.replicate l.length false).set a true)[a]? = some true := by rw [List.getElem?_set_self (by simpa using ha)]
  refine ⟨⟨by simp, h1, fun k hk => ?_⟩, .inr ?_⟩
  · by_cases e : a = k
    · subst e; exact .self
    · rw [List.getElem?_set_ne e, List.getElem?_replicate] at hk
      split at hk <;> cases hk
  · exact List.count_pos_iff.2 (List.mem_of_getElem? h1)
theorem Rnd.mid {l : List PE} {a r : Nat} {S : List Bool} (h : Rnd l a S r) : Mid l a S S 0 0 := ⟨h.1, fun j hj => hj, fun j m hj => absurd hj (Nat.not_lt_zero _), fun m hm => absurd hm (Nat.not_lt_zero _)⟩
theorem Mid.step {l : List PE} {a i k : Nat} {S T : List Bool} {ti tk : Bool} (h : Mid l a S T i k) (hi : T[i]? = some ti) (hk : T[k]? = some tk) : Mid l a S (T.set i (ti || (tk && edge l k i))) i (k + 1) := by
  have hil : i < T.length := (List.getElem?_eq_some_iff.1 hi).1
  have old : ∀ j : Nat, T[j]? = some true → (T.set i (ti || (tk && edge l k i)))[j]? = some true := by
    intro j hj
    by_cases e : i = j
    · subst e
      rw [List.getElem?_set_self hil]
      rw [hi] at hj
      rw [Option.some.inj hj]
      simp
    · rw [List.getElem?_set_ne e]; exact hj
  refine ⟨⟨by rw [List.length_set]; exact h.marks.len, old a h.marks.self, fun j hj => ?_⟩, fun j hj => old j (h.more j hj), fun j m hj hm he => old j (h.done j m hj hm he), fun m hm hS he => ?_⟩
  · by_cases e : i = j
    · subst e
      rw [List.getElem?_set_self hil] at hj
      have h1 := Option.some.inj hj
      rw [Bool.or_eq_true, Bool.and_eq_true] at h1
      rcases h1 with h1 | ⟨h1, h2⟩
      · exact h.marks.reach i (by rw [hi, h1])
      · exact .step (h.marks.reach k (by rw [hk, h1])) h2
    · rw [List.getElem?_set_ne e] at hj
      exact h.marks.reach j hj
  · rcases Nat.lt_or_ge m k with h1 | h1
    · exact old i (h.part m h1 hS he)
    · obtain rfl : m = k := by omega
      have h2 := h.more m hS
      rw [hk] at h2
      rw [List.getElem?_set_self hil, Option.some.inj h2, he]
      simp
theorem Mid.next {l : List PE} {a i : Nat} {S T : List Bool} (h : Mid l a S T i l.length) : Mid l a S T (i + 1) 0 := by
  refine ⟨h.marks, h.more, fun j m hj hm he => ?_, fun m hm => absurd hm (Nat.not_lt_zero _)⟩
  rcases Nat.lt_or_ge j i with h1 | h1
  · exact h.done j m h1 hm he
  · obtain rfl : j = i := by omega
    exact h.part m (edge_lt he).1 hm he
theorem count_le : ∀ {S T : List Bool}, S.length = T.length → (∀ j : Nat, S[j]? = some true → T[j]? = some true) → S.count true ≤ T.count true ∧ (S.count true = T.count true → S = T)
  | [], [], _, _ => ⟨Nat.le_refl _, fun _ => rfl⟩
  | [], y :: T, h, _ => by simp at h
  | x :: S, [], h, _ => by simp at h
  | x :: S, y :: T, h, hs => by
    obtain ⟨h1, h2⟩ := count_le (S := S) (T := T) (by simpa using h) fun j hj => by simpa using hs (j + 1) (by simpa using hj)
    have h0 := hs 0
    cases x <;> cases y <;> simp [List.count_cons] at h0 ⊢
    · exact ⟨h1, h2⟩
    · exact ⟨by omega, fun e => by omega⟩
    · exact ⟨h1, fun e => h2 e⟩
theorem Mid.rnd {l : List PE} {a r : Nat} {S T : List Bool} (h : Mid l a S T l.length 0) (hr : Rnd l a S r) : Rnd l a T (r + 1) := by
  refine ⟨h.marks, ?_⟩
  have hl : S.length = T.length := by rw [hr.1.len, h.marks.len]
  obtain ⟨h1, h2⟩ := count_le hl h.more
  have hstep : ∀ i k : Nat, S[i]? = some true → edge l i k = true → T[k]? = some true := fun i k hi he => h.done k i (edge_lt he).2 hi he
  by_cases he : S.count true = T.count true
  · have := h2 he
    subst this
    exact .inl hstep
  · rcases hr.2 with hs | hs
    · exfalso
      have : ∀ j : Nat, T[j]? = some true → S[j]? = some true := fun j hj => reach_in (S := fun k => S[k]? = some true) hr.1.self (fun i k hi hik => hs i k hi hik) (h.marks.reach j hj)
      have h3 := (count_le hl.symm this).1
      omega
    · exact .inr (by omega)
theorem Rnd.all {l : List PE} {a r : Nat} {S : List Bool} (h : Rnd l a S r) (hr : l.length ≤ r) : S = (List.range l.length).map (reachB l a) := by
  have hs : Shut l S := by
    rcases h.2 with h2 | h2
    · exact h2
    · have : S.count true ≤ S.length := List.count_le_length
      rw [h.1.len] at this
      omega
  refine List.ext_getElem? fun k => ?_
  rw [List.getElem?_map]
  by_cases hk : k < l.length
  · rw [List.getElem?_range hk, List.getElem?_eq_getElem (by rw [h.1.len]; exact hk)]
    refine congrArg some ?_
    rw [Bool.eq_iff_iff, reachB_iff]
    constructor
    · intro e
      exact h.1.reach k (by rw [List.getElem?_eq_getElem (by rw [h.1.len]; exact hk), e])
    · intro e
      have h3 := reach_in (S := fun k => S[k]? = some true) h.1.self (fun i k hi hik => hs i k hi hik) e
      rw [List.getElem?_eq_getElem (by rw [h.1.len]; exact hk)] at h3
      exact Option.some.inj h3
  · rw [List.getElem?_eq_none (by rw [h.1.len]; omega), List.getElem?_eq_none (by simp; omega)]
    rfl
end Go.Proofs.Ytfkcldaogfengaa
