/-
  Reserves: entries as plain data, which is better, which one is chosen. Conditions: none beyond each theorem's own.
-/
import Derived.Test.YtelindgnkpfkiaaTxG
import Derived.Test.YtelindgnkpfkiaaNew
namespace Go.Proofs.Ytelindgnkpfkiaa
open Go.RowKit Go.BigFrame
set_option linter.unusedVariables false
set_option linter.unusedSimpArgs false

structure PEn where
  id : ByteArray
  idx : Nat
  val : Int
  script : ByteArray
  ht : Int
structure PEn.Ok (x : PEn) : Prop where
  id : x.id.size ≤ maxLen
  idx : x.idx < 4294967296
  val : -9223372036854775808 ≤ x.val ∧ x.val ≤ 9223372036854775807
  script : x.script.size ≤ maxLen
  ht : -9223372036854775808 ≤ x.ht ∧ x.ht ≤ 9223372036854775807
def PEn.pt (x : PEn) : Pt := (x.id, x.idx)
def rpEn : Rp PEn := ⟨5, fun _ cs x => cs = [.string x.id, .int .u32 x.idx, .int .i64 x.val, .string x.script, .int .i64 x.ht] ∧ x.Ok, fun _ h => h⟩
theorem SlAt.en {w : World} {a : Option Addr} {n c i : Nat} {xs : List PEn} (h : SlAt rpEn w (.slice a n c) xs) (hi : i < n) : ∃ (b o : Nat) (x : PEn), a = some ⟨b, o, none⟩ ∧ xs[i]? = some x ∧ x.Ok ∧
    w.cell? ⟨b, o + i * 5, none⟩ = some (.string x.id) ∧ w.cell? ⟨b, o + i * 5 + 1, none⟩ = some (.int .u32 x.idx) ∧ w.cell? ⟨b, o + i * 5 + 2, none⟩ = some (.int .i64 x.val) ∧ w.cell? ⟨b, o + i * 5 + 3, none⟩ = some (.string x.script) ∧ w.cell? ⟨b, o + i * 5 + 4, none⟩ = some (.int .i64 x.ht) := by
  obtain ⟨b, o, x, cs, h1, h2, h3, h4, h5, h6⟩ := h.at hi
  subst h5
  exact ⟨b, o, x, h1, h2, h6, h4 0 _ rfl, h4 1 _ rfl, h4 2 _ rfl, h4 3 _ rfl, h4 4 _ rfl⟩
/-- Is a coin better than another: of a lesser value, or of the same and the first? -/
def betterB (a b : PEn) : Bool := if a.val = b.val then lessPt a.pt b.pt else decide (a.val < b.val)
/-- The coin that is chosen. -/
def fitsB (script : ByteArray) (need : Int) (taken : Pt → Bool) (x : PEn) : Bool := decide (x.script = script) && (decide (need ≤ x.val) && !taken x.pt)
def upB (b : Option PEn) (x : PEn) : Option PEn := match b with | none => some x | some y => if betterB x y then some x else some y
def pickB (script : ByteArray) (need : Int) (taken : Pt → Bool) (b : Option PEn) (x : PEn) : Option PEn :=
  if fitsB script need taken x then upB b x else b
def chooseL (script : ByteArray) (need : Int) (taken : Pt → Bool) (l : List PEn) : Option PEn := l.foldl (pickB script need taken) none

/-! ### what is chosen -/
theorem pick_ge {script : ByteArray} {need : Int} {taken : Pt → Bool} : ∀ (l : List PEn) (b : Option PEn) (y : PEn), l.foldl (pickB script need taken) b = some y →
    (b = some y ∨ (y ∈ l ∧ fitsB script need taken y = true)) ∧ (∀ x ∈ l, fitsB script need taken x = true → y.val ≤ x.val) ∧ (∀ z, b = some z → y.val ≤ z.val)
  | [], b, y, h => ⟨.inl h, fun x hx => by simp at hx, fun z hz => by rw [show b = some y from h] at hz; cases hz; exact Int.le_refl _⟩
  | x :: r, b, y, h => by
    rw [List.foldl_cons] at h
    obtain ⟨h1, h2, h3⟩ := pick_ge r (pickB script need taken b x) y h
    by_cases hf : fitsB script need taken x = true
    · have hp : pickB script need taken b x = upB b x := by unfold pickB; rw [if_pos hf]
      rw [hp] at h1 h3
      cases b with
      | none =>
        dsimp only [upB] at h1 h3
        refine ⟨.inr ?_, fun u hu hfu => ?_, fun z hz => by cases hz⟩
        · rcases h1 with h1 | ⟨h1, h1'⟩
          · cases h1; exact ⟨List.mem_cons_self .., hf⟩
          · exact ⟨List.mem_cons_of_mem _ h1, h1'⟩
        · rcases List.mem_cons.1 hu with rfl | hu
          · exact h3 _ rfl
          · exact h2 u hu hfu
      | some z =>
        dsimp only [upB] at h1 h3
        have hle : ∀ m, (if betterB x z = true then some x else some z) = some m → m.val ≤ x.val ∧ m.val ≤ z.val := by
          intro m hm
          by_cases hb : betterB x z = true
          · rw [if_pos hb] at hm
            cases hm
            refine ⟨Int.le_refl _, ?_⟩
            unfold betterB at hb
            by_cases he : x.val = z.val
            · omega
            · rw [if_neg he] at hb
              have := of_decide_eq_true hb
              omega
          · rw [if_neg hb] at hm
            cases hm
            refine ⟨?_, Int.le_refl _⟩
            unfold betterB at hb
            by_cases he : x.val = z.val
            · omega
            · rw [if_neg he] at hb
              have : ¬ x.val < z.val := fun h => hb (decide_eq_true h)
              omega
        have hm : ∃ m, (if betterB x z = true then some x else some z) = some m := by split <;> exact ⟨_, rfl⟩
        obtain ⟨m, hm⟩ := hm
        have hm2 := hle m hm
        have hy := h3 m hm
        refine ⟨?_, fun u hu hfu => ?_, fun z' hz' => ?_⟩
        · rcases h1 with h1 | ⟨h1, h1'⟩
          · by_cases hbt : betterB x z = true
            · rw [if_pos hbt] at h1; cases h1; exact .inr ⟨List.mem_cons_self .., hf⟩
            · rw [if_neg hbt] at h1; exact .inl h1
          · exact .inr ⟨List.mem_cons_of_mem _ h1, h1'⟩
        · rcases List.mem_cons.1 hu with rfl | hu
          · omega
          · exact h2 u hu hfu
        · cases hz'; omega
    · have hp : pickB script need taken b x = b := by unfold pickB; rw [if_neg hf]
      rw [hp] at h1 h3
      refine ⟨?_, fun u hu hfu => ?_, h3⟩
      · rcases h1 with h1 | ⟨h1, h1'⟩
        · exact .inl h1
        · exact .inr ⟨List.mem_cons_of_mem _ h1, h1'⟩
      · rcases List.mem_cons.1 hu with rfl | hu
        · exact absurd hfu hf
        · exact h2 u hu hfu
theorem pick_none {script : ByteArray} {need : Int} {taken : Pt → Bool} : ∀ (l : List PEn) (b : Option PEn), l.foldl (pickB script need taken) b = none → b = none ∧ ∀ x ∈ l, fitsB script need taken x = false
  | [], b, h => ⟨h, fun x hx => by simp at hx⟩
  | x :: r, b, h => by
    rw [List.foldl_cons] at h
    obtain ⟨h1, h2⟩ := pick_none r _ h
    unfold pickB at h1
    by_cases hf : fitsB script need taken x = true
    · rw [if_pos hf] at h1
      cases b with
      | none => cases h1
      | some y => dsimp only [upB] at h1; split at h1 <;> cases h1
    · rw [if_neg hf] at h1
      refine ⟨h1, fun u hu => ?_⟩
      rcases List.mem_cons.1 hu with rfl | hu
      · simpa using hf
      · exact h2 u hu
/-- ReserveBack's plain law: with a greater need none of a lesser value is chosen; where none is, none is by a greater need. -/
theorem choose_more {script : ByteArray} {need more : Int} {taken : Pt → Bool} {l : List PEn} (h0 : 0 ≤ more) : (chooseL script need taken l = none → chooseL script (need + more) taken l = none) ∧
    ∀ a c, chooseL script need taken l = some a → chooseL script (need + more) taken l = some c → a.val ≤ c.val := by
  have fits : ∀ x, fitsB script (need + more) taken x = true → fitsB script need taken x = true := by
    intro x h
    unfold fitsB at *
    simp only [Bool.and_eq_true, decide_eq_true_eq] at *
    exact ⟨h.1, by omega, h.2.2⟩
  refine ⟨fun h => ?_, fun a c ha hc => ?_⟩
  · have h1 := (pick_none l none h).2
    cases hc : chooseL script (need + more) taken l with
    | none => rfl
    | some c =>
      obtain ⟨h2, -, -⟩ := pick_ge l none c hc
      rcases h2 with h2 | ⟨h2, h3⟩
      · cases h2
      · have := h1 c h2
        rw [fits c h3] at this
        cases this
  · obtain ⟨-, h2, -⟩ := pick_ge l none a ha
    obtain ⟨h3, -, -⟩ := pick_ge l none c hc
    rcases h3 with h3 | ⟨h3, h4⟩
    · cases h3
    · exact h2 c h3 (fits c h4)
end Go.Proofs.Ytelindgnkpfkiaa
