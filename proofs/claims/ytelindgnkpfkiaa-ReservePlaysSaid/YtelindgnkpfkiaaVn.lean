/-
  Reserves: the document's leases, by rising keys, beside the program's. Conditions: none beyond each theorem's own.
-/
import Derived.Test.YtelindgnkpfkiaaVg
import Derived.Lib.SlKeysI
namespace Go.Proofs.Ytelindgnkpfkiaa
open Go.RowKit Go.BigFrame Go.Maps
set_option linter.unusedVariables false
set_option linter.unusedSimpArgs false

theorem wf_i64_of {n : Int} (h : -9223372036854775808 ≤ n ∧ n ≤ 9223372036854775807) : (Lit.int .i64 n).wf = true := by simpa [Lit.wf, IntKind.min, IntKind.max, IntKind.signed, IntKind.bits] using h
abbrev PLs := List (Int × Pt)
structure AgrL (L : PLs) (M : Int → Option Pt) : Prop where
  sorted : L.Pairwise fun a b => a.1 < b.1
  iff : ∀ k p, M k = some p ↔ (k, p) ∈ L
def findI (L : PLs) (key : Int) : Option Nat := L.findIdx? fun e => decide (e.1 = key)
def takenL (L : PLs) (p : Pt) : Bool := L.any fun e => decide (e.2 = p)
def insL (key : Int) (p : Pt) : PLs → PLs
  | [] => [(key, p)]
  | e :: r => if key < e.1 then (key, p) :: e :: r else e :: insL key p r
def wStep (key : Int) (p : Pt) (s : PLs × Bool) (e : Int × Pt) : PLs × Bool := if key < e.1 ∧ s.2 = false then (s.1 ++ [(key, p)] ++ [e], true) else (s.1 ++ [e], s.2)
def wEnd (key : Int) (p : Pt) (s : PLs × Bool) : PLs := if s.2 = false then s.1 ++ [(key, p)] else s.1
theorem w_ins (key : Int) (p : Pt) : ∀ (L : PLs) (s : PLs × Bool), wEnd key p (L.foldl (wStep key p) s) = if s.2 = true then s.1 ++ L else s.1 ++ insL key p L
  | [], (a, d) => by cases d <;> simp [wEnd, insL]
  | e :: r, (a, d) => by
    rw [List.foldl_cons, w_ins key p r]
    unfold wStep
    cases d
    · by_cases hk : key < e.1
      · have h1 : key < e.1 ∧ ((a, false) : PLs × Bool).2 = false := ⟨hk, rfl⟩
        rw [if_pos h1]
        simp [insL, hk]
      · have h1 : ¬ (key < e.1 ∧ ((a, false) : PLs × Bool).2 = false) := fun h => hk h.1
        rw [if_neg h1]
        simp [insL, hk]
    · simp
theorem w_len (key : Int) (p : Pt) : ∀ (L : PLs) (s : PLs × Bool), (L.foldl (wStep key p) s).1.length ≤ s.1.length + L.length + 1 ∧ (s.2 = true → (L.foldl (wStep key p) s).1.length = s.1.length + L.length)
  | [], s => by constructor; simp; simp
  | e :: r, (a, d) => by
    rw [List.foldl_cons]
    obtain ⟨h1, h2⟩ := w_len key p r (wStep key p (a, d) e)
    unfold wStep at *
    by_cases hk : key < e.1 ∧ d = false
    · rw [if_pos hk] at h1 h2 ⊢
      have := h2 rfl
      simp only [List.length_append, List.length_cons, List.length_nil] at *
      refine ⟨by omega, fun hd => ?_⟩
      rw [hk.2] at hd; cases hd
    · rw [if_neg hk] at h1 h2 ⊢
      simp only [List.length_append, List.length_cons, List.length_nil] at *
      exact ⟨by omega, fun hd => by have := h2 hd; omega⟩
theorem mem_insL {key : Int} {p : Pt} {e : Int × Pt} : ∀ {L : PLs}, e ∈ insL key p L ↔ e = (key, p) ∨ e ∈ L
  | [] => by simp [insL]
  | x :: r => by
    unfold insL
    split
    · simp
    · rw [List.mem_cons, mem_insL, List.mem_cons]
      constructor
      · rintro (h | h | h)
        · exact .inr (.inl h)
        · exact .inl h
        · exact .inr (.inr h)
      · rintro (h | h | h)
        · exact .inr (.inl h)
        · exact .inl h
        · exact .inr (.inr h)
theorem ins_sorted {key : Int} {p : Pt} : ∀ {L : PLs}, L.Pairwise (fun a b => a.1 < b.1) → (∀ e ∈ L, e.1 ≠ key) → (insL key p L).Pairwise fun a b => a.1 < b.1
  | [], _, _ => by simp [insL]
  | x :: r, h, hn => by
    unfold insL
    rw [List.pairwise_cons] at h
    split
    · rename_i hk
      refine List.pairwise_cons.2 ⟨fun e he => ?_, List.pairwise_cons.2 h⟩
      rcases List.mem_cons.1 he with rfl | he
      · exact hk
      · have := h.1 e he
        dsimp only; omega
    · rename_i hk
      refine List.pairwise_cons.2 ⟨fun e he => ?_, ins_sorted h.2 fun e he => hn e (List.mem_cons_of_mem _ he)⟩
      rcases mem_insL.1 he with rfl | he
      · have := hn x (List.mem_cons_self ..)
        dsimp only; omega
      · exact h.1 e he
theorem AgrL.start : AgrL [] fun _ => none := ⟨List.Pairwise.nil, fun k p => by simp⟩
theorem AgrL.taken {L : PLs} {M : Int → Option Pt} (h : AgrL L M) (p : Pt) : takenL L p = takenB M p := by
  unfold takenL
  by_cases hx : ∃ k, M k = some p
  · obtain ⟨k, hk⟩ := hx
    rw [taken_yes hk, List.any_eq_true]
    exact ⟨(k, p), (h.iff k p).1 hk, by simp⟩
  · rw [taken_no fun k q hq e => hx ⟨k, by rw [hq, e]⟩, List.any_eq_false]
    intro e he
    simp only [decide_eq_true_eq]
    intro e2
    exact hx ⟨e.1, (h.iff e.1 p).2 (by rw [← e2]; exact he)⟩
theorem AgrL.fnone {L : PLs} {M : Int → Option Pt} (h : AgrL L M) {key : Int} (hf : findI L key = none) : M key = none := by
  unfold findI at hf
  rw [List.findIdx?_eq_none_iff] at hf
  cases hm : M key with
  | none => rfl
  | some p =>
    have := hf _ ((h.iff key p).1 hm)
    simp at this
theorem AgrL.fsome {L : PLs} {M : Int → Option Pt} (h : AgrL L M) {key : Int} {i : Nat} (hf : findI L key = some i) : ∃ p, L[i]? = some (key, p) ∧ M key = some p := by
  unfold findI at hf
  rw [List.findIdx?_eq_some_iff_getElem] at hf
  obtain ⟨hi, h1, -⟩ := hf
  have e : L[i].1 = key := by simpa using h1
  have e2 : L[i] = (key, L[i].2) := by rw [← e]
  refine ⟨L[i].2, by rw [List.getElem?_eq_getElem hi]; exact congrArg _ e2, (h.iff _ _).2 ?_⟩
  rw [← e2]
  exact List.getElem_mem hi
theorem AgrL.put {L : PLs} {M : Int → Option Pt} (h : AgrL L M) {key : Int} (p : Pt) (hn : M key = none) : AgrL (insL key p L) (putM M key (some p)) := by
  refine ⟨ins_sorted h.sorted fun e he e2 => ?_, fun k q => ?_⟩
  · have := (h.iff e.1 e.2).2 he
    rw [e2, hn] at this
    cases this
  · rw [mem_insL]
    unfold putM
    by_cases hk : k = key
    · rw [if_pos hk]
      constructor
      · intro e
        cases e
        rw [hk]
        exact .inl rfl
      · rintro (e | e)
        · rw [show q = p from congrArg Prod.snd e]
        · have := (h.iff k q).2 e
          rw [hk, hn] at this
          cases this
    · rw [if_neg hk, h.iff]
      constructor
      · exact .inr
      · rintro (e | e)
        · exact absurd (congrArg Prod.fst e) hk
        · exact e
theorem AgrL.del {L : PLs} {M : Int → Option Pt} (h : AgrL L M) {key : Int} {p : Pt} {i : Nat} (hi : L[i]? = some (key, p)) : AgrL (L.eraseIdx i) (putM M key none) := by
  obtain ⟨hil, he⟩ := List.getElem?_eq_some_iff.1 hi
  refine ⟨h.sorted.sublist (List.eraseIdx_sublist ..), fun k q => ?_⟩
  have hp := List.pairwise_iff_getElem.1 h.sorted
  unfold putM
  rw [List.mem_eraseIdx_iff_getElem]
  by_cases hk : k = key
  · rw [if_pos hk]
    constructor
    · intro e; cases e
    · rintro ⟨j, hj, hne, e⟩
      exfalso
      have e1 : L[j].1 = L[i].1 := by rw [e, he]; exact hk
      rcases Nat.lt_or_gt_of_ne hne with h1 | h1
      · have := hp j i hj hil h1; omega
      · have := hp i j hil hj h1; omega
  · rw [if_neg hk, h.iff]
    constructor
    · intro e
      obtain ⟨j, hj, e⟩ := List.getElem_of_mem e
      refine ⟨j, hj, fun e2 => hk ?_, e⟩
      subst e2
      rw [e] at he
      exact congrArg Prod.fst he
    · rintro ⟨j, hj, -, e⟩
      rw [← e]
      exact List.getElem_mem hj
theorem AgrL.nodup {L : PLs} {M : Int → Option Pt} (h : AgrL L M) : (L.map (·.1)).Nodup := by
  rw [List.nodup_iff_pairwise_ne, List.pairwise_map]
  exact h.sorted.imp fun {a b} hab => by omega
theorem AgrL.keys {L : PLs} {M : Int → Option Pt} {D : DataW Unit} (h : AgrL L M) (hag : Agr D M) {b n : Nat} {w : World} {R : Value → Option (DataW Unit × List MemPlace)} (hown : w.ownsMap Try.prog 3 R b n D) : (L.map (·.1)).Perm (intKeys D) := by
  refine CollectedI.perm (left := fun _ => false) ⟨h.nodup, fun x => ?_⟩ hown law Try.underlying3 (fun _ => rfl)
  rw [hag.has]
  constructor
  · intro hx
    obtain ⟨e, he, rfl⟩ := List.mem_map.1 hx
    rw [(h.iff e.1 e.2).2 he]
    exact ⟨rfl, rfl⟩
  · rintro ⟨hx, -⟩
    obtain ⟨p, hp⟩ := Option.isSome_iff_exists.1 hx
    exact List.mem_map.2 ⟨(x, p), (h.iff x p).1 hp, rfl⟩
theorem AgrL.sort {L : PLs} {M : Int → Option Pt} {D : DataW Unit} (h : AgrL L M) (hag : Agr D M) {b n : Nat} {w : World} {R : Value → Option (DataW Unit × List MemPlace)} (hown : w.ownsMap Try.prog 3 R b n D) {ss : List Int} (hs : ss.Perm (intKeys D)) :
    ss.mergeSort (fun x y => decide (x ≤ y)) = L.map (·.1) := by
  rw [mergeSort_of_perm_i (hs.trans (h.keys hag hown).symm)]
  refine List.mergeSort_of_pairwise ?_
  rw [List.pairwise_map]
  exact h.sorted.imp fun {a b} hab => by simp only [decide_eq_true_eq]; omega
theorem AgrL.size {L : PLs} {M : Int → Option Pt} {D : DataW Unit} (h : AgrL L M) (hag : Agr D M) {b n : Nat} {w : World} {R : Value → Option (DataW Unit × List MemPlace)} (hown : w.ownsMap Try.prog 3 R b n D) : Maps.size D = L.length := by
  have h1 := (h.keys hag hown).length_eq
  obtain ⟨es, rfl⟩ := hag.isMap
  rw [List.length_map] at h1
  rw [h1]
  simp [Maps.size, intKeys]

/-! ### what is answered -/
noncomputable def leaseF (script : ByteArray) (M : Int → Option Pt) (key need : Int) (l : List PEn) : PEn × Int × (Int → Option Pt) :=
  if key < 0 ∨ goodA need = false then (zEn, 2, M)
  else match M key with
    | some p => (match l.find? fun x => decide (x.pt = p) with
      | none => (zEn, 17, M)
      | some x => (x, 0, M))
    | none => (match chooseL script need (takenB M) l with
      | none => (zEn, 8, M)
      | some x => (x, 0, putM M key (some x.pt)))
def takeE (script : ByteArray) (L : PLs) (key need : Int) (l : List PEn) : PLs × PEn × Int :=
  if key < 0 ∨ goodA need = false then (L, zEn, 2)
  else match findI L key with
    | some i => (match l.find? fun x => decide (x.pt = (L.getD i (0, (⟨#[]⟩, 0))).2) with
      | none => (L, zEn, 17)
      | some x => (L, x, 0))
    | none => (match chooseL script need (takenL L) l with
      | none => (L, zEn, 8)
      | some x => (insL key x.pt L, x, 0))
noncomputable def restE (M : Int → Option Pt) (key : Int) (p : Pt) : Int × (Int → Option Pt) :=
  if key < 0 ∨ p.1.size ≠ 32 then (2, M) else if (M key).isSome = true ∨ takenB M p = true then (7, M) else (0, putM M key (some p))
def rrestE (L : PLs) (key : Int) (p : Pt) : PLs × Int :=
  if key < 0 ∨ p.1.size ≠ 32 then (L, 2) else if (findI L key).isSome = true ∨ takenL L p = true then (L, 7) else (insL key p L, 0)
def rrelE (L : PLs) (key : Int) : PLs × Int := match findI L key with | none => (L, 8) | some i => (L.eraseIdx i, 0)
theorem AgrL.take {L : PLs} {M : Int → Option Pt} (h : AgrL L M) (script : ByteArray) (key need : Int) (l : List PEn) :
    (takeE script L key need l).2.1 = (leaseF script M key need l).1 ∧ (takeE script L key need l).2.2 = (leaseF script M key need l).2.1 ∧ AgrL (takeE script L key need l).1 (leaseF script M key need l).2.2 := by
  unfold takeE leaseF
  by_cases hk : key < 0 ∨ goodA need = false
  · rw [if_pos hk, if_pos hk]
    exact ⟨rfl, rfl, h⟩
  rw [if_neg hk, if_neg hk]
  cases hf : findI L key with
  | some i =>
    obtain ⟨p, h1, h2⟩ := h.fsome hf
    rw [h2]
    dsimp only
    have e : (L.getD i (0, (⟨#[]⟩, 0))).2 = p := by rw [List.getD_eq_getElem?_getD, h1]; rfl
    rw [e]
    cases l.find? fun x => decide (x.pt = p) with
    | none => exact ⟨rfl, rfl, h⟩
    | some x => exact ⟨rfl, rfl, h⟩
  | none =>
    have h2 := h.fnone hf
    rw [h2]
    dsimp only
    have e : takenL L = takenB M := funext h.taken
    rw [e]
    cases chooseL script need (takenB M) l with
    | none => exact ⟨rfl, rfl, h⟩
    | some x => exact ⟨rfl, rfl, h.put x.pt h2⟩
theorem AgrL.rest {L : PLs} {M : Int → Option Pt} (h : AgrL L M) (key : Int) (p : Pt) : (rrestE L key p).2 = (restE M key p).1 ∧ AgrL (rrestE L key p).1 (restE M key p).2 := by
  unfold rrestE restE
  by_cases hk : key < 0 ∨ p.1.size ≠ 32
  · rw [if_pos hk, if_pos hk]; exact ⟨rfl, h⟩
  rw [if_neg hk, if_neg hk, h.taken p]
  cases hf : findI L key with
  | some i =>
    obtain ⟨q, -, h2⟩ := h.fsome hf
    rw [h2, if_pos (.inl rfl), if_pos (.inl rfl)]
    exact ⟨rfl, h⟩
  | none =>
    have h2 := h.fnone hf
    rw [h2]
    by_cases ht : takenB M p = true
    · rw [if_pos (.inr ht), if_pos (.inr ht)]; exact ⟨rfl, h⟩
    · rw [if_neg (by rintro (e | e); cases e; exact ht e), if_neg (by rintro (e | e); cases e; exact ht e)]
      exact ⟨rfl, h.put p h2⟩
theorem AgrL.rel {L : PLs} {M : Int → Option Pt} (h : AgrL L M) (key : Int) : (rrelE L key).2 = (relE M key).1 ∧ AgrL (rrelE L key).1 (relE M key).2 := by
  unfold rrelE relE
  cases hf : findI L key with
  | some i =>
    obtain ⟨q, h1, h2⟩ := h.fsome hf
    rw [h2]
    exact ⟨rfl, h.del h1⟩
  | none =>
    rw [h.fnone hf]
    exact ⟨rfl, h⟩
end Go.Proofs.Ytelindgnkpfkiaa
