/-
  Reserves: the keys that have leases, rising; no point is leased twice. Conditions: the reserve lies in memory.
-/
import Derived.Test.YtelindgnkpfkiaaVp
import Derived.Test.YtelindgnkpfkiaaIter
import Derived.Test.YtelindgnkpfkiaaShelf
namespace Go.Proofs.Ytelindgnkpfkiaa
open Go.RowKit Go.BigFrame Go.Maps Go.Sort Go.Shelf
set_option linter.unusedVariables false
set_option linter.unusedSimpArgs false

theorem sortsK (m : Nat) : AnyZI.SortsIn Try.prog Try.sortedA_ren Fence.wide m :=
  ⟨fun blk off cap ss W hH hblk hsz => callsIn_wide.2 (Try.slices_Sort_int blk off cap ss W hH hblk hsz),
   fun p cap W => callsIn_wide.2 (Try.slices_Sort_int_none p cap W)⟩
def KeysP (L : PLs) (w : World) (e : Ending) (w' : World) : Prop := ∃ v, e = .returned v ∧ w'.ownsRow w.heap.size 3 1 v L.length ((L.map (·.1)).map encZ) ∧ Below w.heap.size w w'
set_option maxRecDepth 100000 in
set_option maxHeartbeats 1000000 in
theorem keys_any {cn : Nat} (b m : Nat) (script : ByteArray) (M : Int → Option Pt) (L : PLs) (w : World) (hr : RsM w b m script M cn) (hcn : cn < 1000000) (hL : AgrL L M) :
    Calls Try.prog 15 #[.pointer (some ⟨b, 0, none⟩)] w (KeysP L w) := by
  obtain ⟨n, D, hown, hag, hn⟩ := hr.owns
  have hsz := hown.size_le
  have hmax : Maps.size D ≤ maxLen := by rw [maxLen_eq]; omega
  have hbytes : Maps.size D * 8 ≤ 140737488355328 := by omega
  have c1 : w.cell? ⟨b, 1, none⟩ = some (.map (some m)) := cell_at hr.box
  have HAG := Lib.hid hag
  have HL := Lib.hid hL
  have HOW := Lib.hid hown
  refine (callsIn_wide (n := 6)).1 ?_
  have hbl := hown.lt
  have hseq : SeqGives Fence.wide 2 Try.prog 45 #[.pointer (some ⟨w.heap.size, 0, none⟩)] encZ (fun ss => ss.Perm (intKeys D)) (Maps.size D) (w.alloc (.cells #[.map (some m)] 47)) :=
    AnyZI.keys_gives (ρ := Try.keysA_ren) { Try.keysA with } Fence.wide _ trivial rfl (by omega) w.heap.size m n D _ (by simp) (by simp) (by
      obtain ⟨es, clock, hb, Ft, hs, hD⟩ := hown
      exact ⟨es, clock, (Below.heap_alloc _ _ m hbl).trans hb, Ft, hs, hD⟩)
  have cK : ∀ mb W, CallsIn Fence.wide 5 Try.prog 31 #[.map mb] W fun e w' => e = .returned (.func (.func 45) #[] #[.pointer (some ⟨W.heap.size, 0, none⟩)]) ∧ w' = W.alloc (.cells #[.map mb] 47) := fun mb W => AnyZI.keys_in Try.keysA Fence.wide 5 trivial rfl mb W
  have cS := AnyZI.sorted_in Try.sortedA Fence.wide 5 trivial trivial trivial trivial rfl (by omega) (sortsK _) (enters_of Try.func44 (by kernel_rfl) rfl) 45 #[.pointer (some ⟨w.heap.size, 0, none⟩)] trivial (enters_of Try.func45 (by kernel_rfl) rfl) _ _ hmax hbytes _ hseq
  change CallsIn _ _ Try.prog 30 _ _ _ at cS
  have hfK : Fence.wide.fn 31 := trivial
  have hfS : Fence.wide.fn 30 := trivial
  have CS := Lib.hid cS
  have CK := Lib.hid cK
  have HBL := Lib.hid hbl
  clear hseq hown hag hsz hmax hbytes hn hL hr cS cK hbl
  refine callsIn_of_wp Try.func15 rfl trivial ?_ rfl
  simp only [Try.ntmps15, List.size_toArray, List.length_cons, List.length_nil, Nat.reduceAdd, Nat.reduceSub, Array.replicate_succ, Array.replicate_zero, List.push_toArray, List.append_toArray, List.nil_append, List.cons_append]
  gi_wp2_with (first
    | (gi_at_call 31; refine (CK.out _ _).mono ?_; rintro e w' ⟨rfl, rfl⟩)
    | (gi_at_call 30; refine CS.out.mono ?_; rintro e w' ⟨v, ss, rfl, hS, hrow, hnil, hb⟩))
  go_ret
  have hlen : ss.length = L.length := by
    have h1 := hS.length_eq
    have h2 := (HL.out.keys HAG.out HOW.out).length_eq
    rw [List.length_map] at h2
    omega
  have hss := HL.out.sort HAG.out HOW.out hS
  refine ⟨v, rfl, ?_, ((Below.refl _ w).alloc (Nat.le_refl _) _).trans (hb.mono (by simp))⟩
  rw [← hss, ← hlen]
  exact ownsRow_base hrow (by simp)

/-! ### no point twice -/
structure Once (L : PLs) (M : Int → Option Pt) : Prop where
  agr : AgrL L M
  inj : (L.map (·.2)).Nodup
theorem insL_perm (key : Int) (p : Pt) : ∀ L : PLs, (insL key p L).Perm ((key, p) :: L)
  | [] => List.Perm.refl _
  | e :: r => by
    unfold insL
    split
    · exact List.Perm.refl _
    · exact ((insL_perm key p r).cons e).trans (List.Perm.swap _ _ _)
theorem Once.start : Once [] fun _ => none := ⟨AgrL.start, List.nodup_nil⟩
theorem Once.put {L : PLs} {M : Int → Option Pt} (h : Once L M) {key : Int} {p : Pt} (hn : M key = none) (ht : takenB M p = false) : Once (insL key p L) (putM M key (some p)) := by
  refine ⟨h.agr.put p hn, ?_⟩
  refine (((insL_perm key p L).map (·.2)).nodup_iff).2 ?_
  refine List.nodup_cons.2 ⟨fun hp => ?_, h.inj⟩
  obtain ⟨e, he, e2⟩ := List.mem_map.1 hp
  have := taken_yes ((h.agr.iff e.1 e.2).2 he)
  rw [e2, ht] at this
  cases this
theorem Once.rel {L : PLs} {M : Int → Option Pt} (h : Once L M) (key : Int) : Once (rrelE L key).1 (relE M key).2 := by
  refine ⟨(h.agr.rel key).2, ?_⟩
  unfold rrelE
  cases findI L key with
  | none => exact h.inj
  | some i => exact h.inj.sublist ((List.eraseIdx_sublist L i).map _)
theorem Once.rest {L : PLs} {M : Int → Option Pt} (h : Once L M) (key : Int) (p : Pt) : ∃ L', Once L' (restE M key p).2 := by
  unfold restE
  by_cases hk : key < 0 ∨ p.1.size ≠ 32
  · rw [if_pos hk]; exact ⟨L, h⟩
  rw [if_neg hk]
  by_cases ht : (M key).isSome = true ∨ takenB M p = true
  · rw [if_pos ht]; exact ⟨L, h⟩
  · rw [if_neg ht]
    refine ⟨_, h.put (key := key) (p := p) ?_ ?_⟩
    · cases hm : M key with
      | none => rfl
      | some q => rw [hm] at ht; exact absurd (.inl rfl) ht
    · cases hb : takenB M p with
      | false => rfl
      | true => exact absurd (.inr hb) ht
theorem choose_some {script : ByteArray} {need : Int} {taken : Pt → Bool} {l : List PEn} {x : PEn} (h : chooseL script need taken l = some x) : x ∈ l ∧ x.script = script ∧ need ≤ x.val ∧ taken x.pt = false := by
  obtain ⟨h1, -, -⟩ := pick_ge l none x h
  rcases h1 with h1 | ⟨h1, h2⟩
  · cases h1
  · unfold fitsB at h2
    simp only [Bool.and_eq_true, decide_eq_true_eq, Bool.not_eq_true'] at h2
    exact ⟨h1, h2.1, h2.2.1, h2.2.2⟩
/-- What a lease that was granted says. -/
theorem lease_good {L : PLs} {script : ByteArray} {M : Int → Option Pt} {key need : Int} {l : List PEn} (h : Once L M) : (∃ L', Once L' (leaseF script M key need l).2.2) ∧
    ((leaseF script M key need l).2.1 ≠ 0 → (leaseF script M key need l).2.2 = M) ∧
    ((leaseF script M key need l).2.1 = 0 → (leaseF script M key need l).2.2 = putM M key (some (leaseF script M key need l).1.pt) ∧ (∀ p, M key = some p → (leaseF script M key need l).1.pt = p) ∧ (M key = none → need ≤ (leaseF script M key need l).1.val ∧ (leaseF script M key need l).1.script = script)) := by
  unfold leaseF
  by_cases hk : key < 0 ∨ goodA need = false
  · rw [if_pos hk]
    exact ⟨⟨L, h⟩, fun _ => rfl, fun e => absurd (show (2 : Int) = 0 from e) (by decide)⟩
  rw [if_neg hk]
  cases hM : M key with
  | some p =>
    dsimp only
    cases hf : l.find? fun x => decide (x.pt = p) with
    | none => exact ⟨⟨L, h⟩, fun _ => rfl, fun e => absurd (show (17 : Int) = 0 from e) (by decide)⟩
    | some x =>
      have hx : x.pt = p := by simpa using List.find?_some hf
      refine ⟨⟨L, h⟩, fun e => absurd rfl e, fun _ => ⟨?_, fun q hq => ?_, (fun e => by cases e)⟩⟩
      · funext j
        unfold putM
        dsimp only
        by_cases hj : j = key
        · rw [if_pos hj, hj, hM, hx]
        · rw [if_neg hj]
      · cases hq; exact hx
  | none =>
    dsimp only
    cases hc : chooseL script need (takenB M) l with
    | none => exact ⟨⟨L, h⟩, fun _ => rfl, fun e => absurd (show (8 : Int) = 0 from e) (by decide)⟩
    | some x =>
      obtain ⟨-, h1, h2, h3⟩ := choose_some hc
      exact ⟨⟨_, h.put hM h3⟩, fun e => absurd rfl e, fun _ => ⟨rfl, (fun q hq => by cases hq), fun _ => ⟨h2, h1⟩⟩⟩
end Go.Proofs.Ytelindgnkpfkiaa
