/-
  A transaction of bytes, in plain: what is decoded, and its laws. Conditions: those of each theorem.
-/
import Derived.Test.YtmcknjldimnaoaaWp
namespace Go.Proofs.Ytmcknjldimnaoaa
set_option linter.unusedVariables false
set_option linter.unusedSimpArgs false

def inZ : Prs PIn := mapZ (fun a => ⟨a.1, a.2.1, a.2.2.2, []⟩) (seqZ (textZ 32) fun _ => seqZ (numZ 4 4294967295 3) fun _ => seqZ (cntZ 0 0 4) fun _ => numZ 4 4294967295 3)
def okIn (x : PIn) : Prop := x.id.size = 32 ∧ x.idx < 4294967296 ∧ x.seq < 4294967296 ∧ x.wit = []
theorem inZ_psr : Psr inZ inB okIn := by
  refine ((textZ_psr 32).seq fun _ => (numZ_psr 4 4294967295 3 (by decide)).seq fun _ => (cntZ_psr 0 0 4 (by decide) (by decide)).seq fun _ => numZ_psr 4 4294967295 3 (by decide)).map _
    (fun x => (x.id, x.idx, 0, x.seq)) ?_ ?_
  · rintro ⟨s, i, n, q⟩ ⟨h1, h2, h3, h4⟩
    dsimp only at h1 h2 h3 h4 ⊢
    obtain rfl : n = 0 := by omega
    exact ⟨⟨h1, by show i < _; omega, by show q < _; omega, rfl⟩, by simp [inB, List.append_assoc]⟩
  · rintro ⟨s, i, q, wt⟩ ⟨h1, h2, h3, h4⟩
    dsimp only at h1 h2 h3 h4 ⊢
    subst h4
    exact ⟨⟨h1, ⟨by omega, by omega⟩, by omega, by omega, by omega⟩, rfl⟩
def cntRep {α : Type} (least most : Nat) (e : Int) (F : Prs α) : Prs (List α) := mapZ Prod.snd (seqZ (cntZ least most e) fun n => repZ F n)
theorem cntRep_psr {α : Type} {F : Prs α} {q : α → List UInt8} {ok : α → Prop} (hF : Psr F q ok) (least most : Nat) (e : Int) (he : e ≠ 0) (hm : most < 18446744073709551616) :
    Psr (cntRep least most e F) (fun xs => vintL xs.length ++ xs.flatMap q) (fun xs => (least ≤ xs.length ∧ xs.length ≤ most) ∧ ∀ x ∈ xs, ok x) := by
  refine ((cntZ_psr least most e he hm).seq fun n => hF.rep n).map _ (fun xs => (xs.length, xs)) ?_ ?_
  · rintro ⟨n, xs⟩ ⟨h1, h3, h2⟩
    dsimp only at h1 h2 h3 ⊢
    subst h3
    exact ⟨⟨h1, h2⟩, rfl⟩
  · rintro xs ⟨h1, h2⟩
    exact ⟨⟨h1, rfl, h2⟩, rfl⟩
def insZ : Prs (List PIn) := cntRep 1 256 6 inZ
def cntText (most : Nat) (e : Int) : Prs ByteArray := mapZ Prod.snd (seqZ (cntZ 0 most e) fun k => textZ k)
theorem cntText_psr (most : Nat) (e : Int) (he : e ≠ 0) (hm : most < 18446744073709551616) : Psr (cntText most e) sizedL (fun s => s.size ≤ most) := by
  refine ((cntZ_psr 0 most e he hm).seq fun k => textZ_psr k).map _ (fun s => (s.size, s)) ?_ ?_
  · rintro ⟨k, s⟩ ⟨h1, h2⟩
    dsimp only at h1 h2 ⊢
    subst h2
    exact ⟨h1.2, rfl⟩
  · intro s h
    exact ⟨⟨⟨Nat.zero_le _, h⟩, rfl⟩, rfl⟩
def outZ : Prs POut := mapZ (fun a => ⟨(a.1 : Int), a.2⟩) (seqZ (numZ 8 2100000000000000 3) fun _ => cntText 40 20)
def okOut (x : POut) : Prop := (0 ≤ x.val ∧ x.val ≤ 2100000000000000) ∧ x.script.size ≤ 40
theorem outZ_psr : Psr outZ outB okOut := by
  refine ((numZ_psr 8 2100000000000000 3 (by decide)).seq fun _ => cntText_psr 40 20 (by decide) (by decide)).map _ (fun x => (x.val.toNat, x.script)) ?_ ?_
  · rintro ⟨n, s⟩ ⟨h1, h2⟩
    dsimp only at h1 h2 ⊢
    exact ⟨⟨⟨by show (0 : Int) ≤ (n : Int); omega, by show (n : Int) ≤ _; omega⟩, h2⟩, rfl⟩
  · rintro ⟨v, s⟩ ⟨⟨h1, h2⟩, h3⟩
    dsimp only at h1 h2 h3 ⊢
    exact ⟨⟨⟨by omega, by omega⟩, h3⟩, by rw [Int.toNat_of_nonneg h1]⟩
def outsZ : Prs (List POut) := cntRep 1 256 6 outZ
def itemZ : Prs ByteArray := cntText 80 20
def witZ : Prs (List ByteArray) := cntRep 0 4 6 itemZ
def wtL (l : List ByteArray) : List UInt8 := vintL l.length ++ l.flatMap sizedL
def okWit (l : List ByteArray) : Prop := (0 ≤ l.length ∧ l.length ≤ 4) ∧ ∀ s ∈ l, s.size ≤ 80
theorem witZ_psr : Psr witZ wtL okWit := cntRep_psr (cntText_psr 80 20 (by decide) (by decide)) 0 4 6 (by decide) (by decide)
def anyW (l : List (List ByteArray)) : Bool := l.any fun s => decide (0 < s.length)
/-- All witnesses; one of them must have a text. -/
def witsZ (n : Nat) : Prs (List (List ByteArray)) := fun l z => (if (repZ witZ n l z).1.err = 0 ∧ anyW (repZ witZ n l z).2 = false then ⟨z.at_, 4⟩ else (repZ witZ n l z).1, (repZ witZ n l z).2)
theorem witsZ_psr (n : Nat) : Psr (witsZ n) (fun xs => xs.flatMap wtL) (fun xs => (xs.length = n ∧ ∀ x ∈ xs, okWit x) ∧ anyW xs = true) where
  stay l z hz := by
    have h := (witZ_psr.rep n).stay l z hz
    unfold witsZ
    dsimp only
    rw [if_neg (fun hh => hz (h ▸ hh.1)), h]
  bound l z hz hl := by
    have h := (witZ_psr.rep n).bound l z hz hl
    unfold witsZ
    dsimp only
    split
    · exact ⟨Nat.le_refl _, hl⟩
    · exact h
  back l z x r hx hz hl hd := by
    have h := (witZ_psr.rep n).back l z x r hx.1 hz hl hd
    unfold witsZ
    rw [h]
    dsimp only
    rw [if_neg (by rw [hx.2]; simp)]
  again l z hz hl h0 := by
    unfold witsZ at h0 ⊢
    dsimp only at h0 ⊢
    split at h0
    · exact absurd h0 four_ne
    · rename_i h1
      have h := (witZ_psr.rep n).again l z hz hl h0
      refine ⟨⟨h.1, ?_⟩, h.2⟩
      rw [not_and] at h1
      simpa using h1 h0
  short l z x p r hx hz hl hd hq hr := by
    have h := (witZ_psr.rep n).short l z x p r hx.1 hz hl hd hq hr
    unfold witsZ
    dsimp only
    rw [if_neg (fun hh => five_ne (h ▸ hh.1)), h]
def nilZ {α : Type} : Prs (List α) := fun _ z => (z, [])
theorem nilZ_psr {α : Type} : Psr (nilZ (α := α)) (fun _ => []) (fun xs => xs = []) where
  stay l z hz := rfl
  bound l z hz hl := ⟨Nat.le_refl _, hl⟩
  back l z x r hx hz hl hd := by
    obtain ⟨a, e⟩ := z
    obtain rfl : e = 0 := hz
    rw [hx]; rfl
  again l z hz hl h0 := ⟨rfl, _, rfl⟩
  short l z x p r hx hz hl hd hq hr := absurd (List.append_eq_nil_iff.1 hq.symm).2 hr
/-- Is a marker there, and the right flag? -/
def markZ : Prs Bool := fun l z =>
  if z.err ≠ 0 ∨ l.length ≤ z.at_ ∨ byteAt l z.at_ ≠ 0 then (z, false) else
  if z.at_ + 1 < l.length ∧ byteAt l (z.at_ + 1) ≠ 1 then (⟨z.at_ + 1, 4⟩, true) else ((numZ 1 1 4 l ⟨z.at_ + 1, 0⟩).1, true)
def miZ : Prs (Bool × List PIn) := seqZ markZ fun _ => insZ
def okIns (xs : List PIn) : Prop := (1 ≤ xs.length ∧ xs.length ≤ 256) ∧ ∀ x ∈ xs, okIn x
def insL (xs : List PIn) : List UInt8 := vintL xs.length ++ xs.flatMap inB
theorem insZ_psr : Psr insZ insL okIns := cntRep_psr inZ_psr 1 256 6 (by decide) (by decide)
def okOuts (xs : List POut) : Prop := (1 ≤ xs.length ∧ xs.length ≤ 256) ∧ ∀ x ∈ xs, okOut x
def outsL (xs : List POut) : List UInt8 := vintL xs.length ++ xs.flatMap outB
theorem outsZ_psr : Psr outsZ outsL okOuts := cntRep_psr outZ_psr 1 256 6 (by decide) (by decide)
theorem insL_first {xs : List PIn} (h : okIns xs) : ∃ b p, insL xs = b :: p ∧ b.toNat ≠ 0 := by
  obtain ⟨b, p, h1, -, -, h4⟩ := vintL_first xs.length
  refine ⟨b, p ++ xs.flatMap inB, by unfold insL; rw [h1]; rfl, fun h0 => ?_⟩
  have := h4 (UInt8.toNat_inj.1 h0)
  have := h.1.1
  omega
theorem mark_stay (l : List UInt8) (z : Zst) (hz : z.err ≠ 0) : markZ l z = (z, false) := by unfold markZ; rw [if_pos (.inl hz)]
theorem mark_none (l : List UInt8) (z : Zst) (h : l.length ≤ z.at_) : markZ l z = (z, false) := by unfold markZ; rw [if_pos (.inr (.inl h))]
theorem mark_no (l : List UInt8) (z : Zst) (h : byteAt l z.at_ ≠ 0) : markZ l z = (z, false) := by unfold markZ; rw [if_pos (.inr (.inr h))]
theorem mark_yes {l r : List UInt8} {z : Zst} (hz : z.err = 0) (hl : z.at_ ≤ l.length) (hd : l.drop z.at_ = [0, 1] ++ r) : markZ l z = (⟨z.at_ + 2, 0⟩, true) := by
  have h1 := drop_le hl hd
  have h2 : byteAt l z.at_ = 0 := byteAt_drop (r := 1 :: r) hd
  have hd2 : l.drop (z.at_ + 1) = 1 :: r := drop_len (a := [0]) (r := 1 :: r) hd
  have h3 : byteAt l (z.at_ + 1) = 1 := byteAt_drop hd2
  rw [List.length_cons, List.length_cons, List.length_nil] at h1
  have h4 := (numZ_psr 1 1 4 (by decide)).back l ⟨z.at_ + 1, 0⟩ 1 r ⟨by decide, by decide⟩ rfl (by dsimp only; omega) hd2
  unfold markZ
  rw [if_neg (by rw [hz, h2]; simp; omega), if_neg (by rw [h3]; simp), h4]
  rfl
theorem mark_again {l : List UInt8} {z : Zst} (hz : z.err = 0) (h0 : (markZ l z).1.err = 0) : ((markZ l z) = (z, false)) ∨ (markZ l z = (⟨z.at_ + 2, 0⟩, true) ∧ ∃ r, l.drop z.at_ = [0, 1] ++ r) := by
  unfold markZ at h0 ⊢
  split at h0
  · rename_i h; rw [if_pos h]; exact .inl rfl
  · rename_i h
    rw [if_neg h]
    split at h0
    · exact absurd h0 four_ne
    · rename_i h1
      rw [if_neg h1]
      refine .inr ?_
      have ha : z.at_ < l.length := by
        rcases Nat.lt_or_ge z.at_ l.length with h2 | h2
        · exact h2
        · exact absurd (.inr (.inl h2)) h
      have hb0 : byteAt l z.at_ = 0 := Decidable.by_contra fun h3 => h (.inr (.inr h3))
      obtain ⟨-, h4, r, h5⟩ := (numZ_psr 1 1 4 (by decide)).next (l := l) (z := ⟨z.at_ + 1, 0⟩) rfl (by dsimp only; omega) h0
      have hlen := congrArg List.length h5
      rw [List.length_drop, List.length_append, leB_length] at hlen
      obtain ⟨b, hb⟩ := drop_cons ha
      obtain ⟨c, hc⟩ := drop_cons (show z.at_ + 1 < l.length by dsimp only at hlen; omega)
      have hb2 := byteAt_drop hb
      have hc2 := byteAt_drop hc
      have h7 : byteAt l (z.at_ + 1) = 1 := Decidable.by_contra fun h3 => h1 ⟨by dsimp only at hlen; omega, h3⟩
      have hbz : b = 0 := UInt8.toNat_inj.1 (hb2.symm.trans hb0)
      have hcz : c = 1 := UInt8.toNat_inj.1 (hc2.symm.trans h7)
      subst hbz hcz
      refine ⟨by rw [h4, leB_length], l.drop (z.at_ + 1 + 1), by rw [hb, hc]; rfl⟩
theorem mark_bound (l : List UInt8) (z : Zst) (hz : z.err = 0) (hl : z.at_ ≤ l.length) : z.at_ ≤ (markZ l z).1.at_ ∧ (markZ l z).1.at_ ≤ l.length := by
  unfold markZ
  split
  · exact ⟨Nat.le_refl _, hl⟩
  · rename_i h
    have ha : z.at_ < l.length := by
      rcases Nat.lt_or_ge z.at_ l.length with h2 | h2
      · exact h2
      · exact absurd (.inr (.inl h2)) h
    split
    · exact ⟨Nat.le_succ _, ha⟩
    · have := (numZ_psr 1 1 4 (by decide)).bound l ⟨z.at_ + 1, 0⟩ rfl ha
      exact ⟨Nat.le_trans (Nat.le_succ _) this.1, this.2⟩
theorem miZ_psr : Psr miZ (fun a => markL a.1 ++ insL a.2) (fun a => okIns a.2) where
  stay l z hz := by
    show (insZ l (markZ l z).1).1 = z
    rw [mark_stay l z hz]
    exact insZ_psr.stay l z hz
  bound l z hz hl := by
    show _ ≤ (insZ l (markZ l z).1).1.at_ ∧ (insZ l (markZ l z).1).1.at_ ≤ _
    have h1 := mark_bound l z hz hl
    by_cases he : (markZ l z).1.err = 0
    · have h2 := insZ_psr.bound l _ he h1.2
      exact ⟨Nat.le_trans h1.1 h2.1, h2.2⟩
    · rw [insZ_psr.stay l _ he]; exact h1
  back l z a r hx hz hl hd := by
    obtain ⟨b, xs⟩ := a
    cases b
    · have hd' : l.drop z.at_ = insL xs ++ r := hd
      obtain ⟨c, p, h1, h2⟩ := insL_first hx
      have h3 : byteAt l z.at_ = c.toNat := byteAt_drop (r := p ++ r) (by rw [hd', h1]; rfl)
      have h4 := insZ_psr.back l z xs r hx hz hl hd'
      unfold miZ seqZ
      rw [mark_no l z (by rw [h3]; exact h2)]
      dsimp only
      rw [h4]
      rfl
    · have hd' : l.drop z.at_ = [0, 1] ++ (insL xs ++ r) := hd
      have h4 := insZ_psr.back l ⟨z.at_ + 2, 0⟩ xs r hx rfl (drop_le hl hd') (drop_len hd')
      unfold miZ seqZ
      rw [mark_yes hz hl hd']
      dsimp only
      rw [h4]
      have h5 : (markL true ++ insL xs).length = 2 + (insL xs).length := by rw [List.length_append]; rfl
      rw [h5, Nat.add_assoc]
  again l z hz hl h0 := by
    have h0' : (insZ l (markZ l z).1).1.err = 0 := h0
    by_cases he : (markZ l z).1.err = 0
    · have hb := mark_bound l z hz hl
      rcases mark_again hz he with h1 | ⟨h1, r, h2⟩
      · rw [h1] at h0'
        obtain ⟨h3, r, h4⟩ := insZ_psr.again l z hz hl h0'
        unfold miZ seqZ
        rw [h1]
        exact ⟨h3, r, h4⟩
      · rw [h1] at h0'
        obtain ⟨h3, r', h4⟩ := insZ_psr.again l ⟨z.at_ + 2, 0⟩ rfl (drop_le hl h2) h0'
        unfold miZ seqZ
        rw [h1]
        refine ⟨h3, r', ?_⟩
        have h5 : l.drop (z.at_ + 2) = r := drop_len h2
        have h6 : r = insL (insZ l ⟨z.at_ + 2, 0⟩).2 ++ r' := h5.symm.trans h4
        dsimp only
        rw [h2]
        show _ = [0, 1] ++ insL (insZ l ⟨z.at_ + 2, 0⟩).2 ++ r'
        rw [List.append_assoc, ← h6]
    · rw [insZ_psr.stay l _ he] at h0'
      exact absurd h0' he
  short l z a p r hx hz hl hd hq hr := by
    obtain ⟨b, xs⟩ := a
    show (insZ l (markZ l z).1).1.err = 5
    have hnil : p = [] → (insZ l z).1.err = 5 := fun hp => insZ_psr.short l z xs [] (insL xs) hx hz hl (by rw [hd, hp]) rfl (by obtain ⟨c, q, h1, -⟩ := insL_first hx; rw [h1]; simp)
    have hlen := congrArg List.length hd
    rw [List.length_drop] at hlen
    cases p with
    | nil =>
      rw [mark_none l z (by simp at hlen; omega)]
      exact hnil rfl
    | cons c p =>
      cases b
      · have hq' : insL xs = c :: p ++ r := hq
        obtain ⟨c', p', h1, h2⟩ := insL_first hx
        rw [h1, List.cons_append] at hq'
        have h3 : byteAt l z.at_ = c.toNat := byteAt_drop hd
        rw [mark_no l z (by rw [h3, ← (List.cons.inj hq').1]; exact h2)]
        exact insZ_psr.short l z xs (c :: p) r hx hz hl hd hq hr
      · have hq' : (0 : UInt8) :: 1 :: insL xs = c :: p ++ r := hq
        rw [List.cons_append] at hq'
        obtain ⟨rfl, hq2⟩ := List.cons.inj hq'
        cases p with
        | nil =>
          have h3 : byteAt l z.at_ = 0 := byteAt_drop hd
          rw [List.length_cons, List.length_nil] at hlen
          have h4 : (numZ 1 1 4 l ⟨z.at_ + 1, 0⟩).1.err = 5 := by
            unfold numZ
            rw [if_neg (by simp), if_pos (by dsimp only; omega)]
          have h5 : (markZ l z).1.err = 5 := by
            unfold markZ
            rw [if_neg (by rw [hz, h3]; simp; omega), if_neg (by omega)]
            exact h4
          rw [insZ_psr.stay l _ (by rw [h5]; decide)]
          exact h5
        | cons d p =>
          rw [List.cons_append] at hq2
          obtain ⟨rfl, hq3⟩ := List.cons.inj hq2
          have hd' : l.drop z.at_ = [0, 1] ++ p := hd
          rw [mark_yes hz hl hd']
          exact insZ_psr.short l ⟨z.at_ + 2, 0⟩ xs p r hx rfl (drop_le hl hd') (drop_len hd') hq3 hr
abbrev Raw := Nat × (Bool × List PIn) × List POut × List (List ByteArray) × Nat
def wsZ (m : Bool × List PIn) : Prs (List (List ByteArray)) := if m.1 then witsZ m.2.length else nilZ
def okWs (m : Bool × List PIn) (xs : List (List ByteArray)) : Prop := if m.1 then (xs.length = m.2.length ∧ ∀ x ∈ xs, okWit x) ∧ anyW xs = true else xs = []
def wsL (m : Bool × List PIn) (xs : List (List ByteArray)) : List UInt8 := if m.1 then xs.flatMap wtL else []
theorem wsZ_psr (m : Bool × List PIn) : Psr (wsZ m) (wsL m) (okWs m) := by
  obtain ⟨b, xs⟩ := m
  cases b
  · exact nilZ_psr
  · exact witsZ_psr xs.length
def allZ : Prs Raw := seqZ (numZ 4 4294967295 3) fun _ => seqZ miZ fun m => seqZ outsZ fun _ => seqZ (wsZ m) fun _ => numZ 4 4294967295 3
def setW (xs : List PIn) (ws : List (List ByteArray)) : List PIn := List.zipWith (fun x v => { x with wit := v }) xs ws
def txOf (a : Raw) : PTx := ⟨a.1, if a.2.1.1 then setW a.2.1.2 a.2.2.2.1 else a.2.1.2, a.2.2.1, a.2.2.2.2⟩
def bareIn (x : PIn) : PIn := { x with wit := [] }
def bareTx (t : PTx) : PTx := { t with ins := t.ins.map bareIn }
def rawOf (t : PTx) (b : Bool) : Raw := (t.ver, (b, t.ins.map bareIn), t.outs, (if b then t.ins.map (·.wit) else []), t.lock)
/-- What is decoded: the transaction, the place, the error. -/
def noTx : PTx := ⟨0, [], [], 0⟩
def endZ (l : List UInt8) (z : Zst) : Zst := if z.at_ < l.length ∧ z.err = 0 then ⟨z.at_, 4⟩ else z
noncomputable def decZ (l : List UInt8) : PTx × Nat × Int :=
  if (endZ l (allZ l ⟨0, 0⟩).1).err = 0 then (if checkOf (txOf (allZ l ⟨0, 0⟩).2) = 0 then (txOf (allZ l ⟨0, 0⟩).2, l.length, 0) else (noTx, (endZ l (allZ l ⟨0, 0⟩).1).at_, checkOf (txOf (allZ l ⟨0, 0⟩).2)))
  else (noTx, (endZ l (allZ l ⟨0, 0⟩).1).at_, (endZ l (allZ l ⟨0, 0⟩).1).err)
/-- What can be written and read. -/
structure OkP (t : PTx) : Prop where
  ver : t.ver < 4294967296
  lock : t.lock < 4294967296
  ins : 1 ≤ t.ins.length ∧ t.ins.length ≤ 256
  outs : 1 ≤ t.outs.length ∧ t.outs.length ≤ 256
  inp : ∀ x ∈ t.ins, (x.id.size = 32 ∧ x.idx < 4294967296 ∧ x.seq < 4294967296) ∧ okWit x.wit
  outp : ∀ x ∈ t.outs, okOut x
theorem anyW_of (t : PTx) : anyW (t.ins.map (·.wit)) = witOf t := by unfold anyW witOf; rw [List.any_map]; rfl
def okRaw (a : Raw) : Prop := (a.1 ≤ 4294967295 ∧ a.1 < 256 ^ 4) ∧ okIns a.2.1.2 ∧ okOuts a.2.2.1 ∧ okWs a.2.1 a.2.2.2.1 ∧ (a.2.2.2.2 ≤ 4294967295 ∧ a.2.2.2.2 < 256 ^ 4)
def rawL (a : Raw) : List UInt8 := leB a.1 4 ++ ((markL a.2.1.1 ++ insL a.2.1.2) ++ (outsL a.2.2.1 ++ (wsL a.2.1 a.2.2.2.1 ++ leB a.2.2.2.2 4)))
theorem allZ_psr' : Psr allZ rawL okRaw := by
  have h := (numZ_psr 4 4294967295 3 (by decide)).seq fun _ => miZ_psr.seq fun m => outsZ_psr.seq fun _ => (wsZ_psr m).seq fun _ => numZ_psr 4 4294967295 3 (by decide)
  exact h
theorem inB_bare (x : PIn) : inB (bareIn x) = inB x := rfl
theorem flat_bare (xs : List PIn) : (xs.map bareIn).flatMap inB = xs.flatMap inB := by rw [List.flatMap_map]; rfl
theorem raw_enc (t : PTx) (b : Bool) : rawL (rawOf t b) = encL t b := by
  unfold rawL rawOf encL insL outsL wsL witsL
  dsimp only
  rw [flat_bare, List.length_map]
  cases b
  · simp [List.append_assoc]
  · simp only [if_true, List.flatMap_map, List.append_assoc]
    rfl
theorem raw_ok {t : PTx} (h : OkP t) {b : Bool} (hb : b = true → witOf t = true) : okRaw (rawOf t b) := by
  have hv := h.ver
  have hk := h.lock
  refine ⟨⟨by show t.ver ≤ _; omega, by show t.ver < _; omega⟩, ⟨by show 1 ≤ (t.ins.map bareIn).length ∧ _; show _ ∧ (t.ins.map bareIn).length ≤ 256; rw [List.length_map]; exact h.ins, fun x hx => ?_⟩, ⟨h.outs, h.outp⟩, ?_, ⟨by show t.lock ≤ _; omega, by show t.lock < _; omega⟩⟩
  · obtain ⟨y, hy, rfl⟩ := List.mem_map.1 hx
    obtain ⟨⟨h1, h2, h3⟩, -⟩ := h.inp y hy
    exact ⟨h1, h2, h3, rfl⟩
  · show okWs (b, t.ins.map bareIn) _
    cases b
    · rfl
    · refine ⟨⟨by show (t.ins.map (·.wit)).length = (t.ins.map bareIn).length; rw [List.length_map, List.length_map], fun x hx => ?_⟩, (anyW_of t).trans (hb rfl)⟩
      obtain ⟨y, hy, rfl⟩ := List.mem_map.1 hx
      exact (h.inp y hy).2
theorem setW_map (xs : List PIn) : setW (xs.map bareIn) (xs.map (·.wit)) = xs := by
  induction xs with
  | nil => rfl
  | cons x r ih =>
    simp only [setW, List.map_cons, List.zipWith_cons_cons] at ih ⊢
    rw [ih]; rfl
theorem raw_tx (t : PTx) : txOf (rawOf t true) = t := by
  unfold txOf rawOf
  simp only [if_true]
  rw [setW_map]
theorem raw_bare (t : PTx) : txOf (rawOf t false) = bareTx t := rfl
theorem bare_self {t : PTx} (h : witOf t = false) : bareTx t = t := by
  unfold bareTx
  have : t.ins.map bareIn = t.ins := by
    conv => rhs; rw [← List.map_id t.ins]
    refine List.map_congr_left fun x hx => ?_
    have h1 := List.any_eq_false.1 h x hx
    have h2 : x.wit = [] := by simpa using h1
    show bareIn x = x
    unfold bareIn
    rw [← h2]
  rw [this]
theorem raw_wit (t : PTx) : txOf (rawOf t (witOf t)) = t := by
  cases h : witOf t
  · rw [raw_bare, bare_self h]
  · exact raw_tx t
/-- A raw one that is ok is the raw one of its transaction. -/
theorem map_setW : ∀ (xs : List PIn) (ws : List (List ByteArray)), xs.length = ws.length → (∀ x ∈ xs, x.wit = []) → (setW xs ws).map bareIn = xs ∧ (setW xs ws).map (·.wit) = ws
  | [], [], _, _ => ⟨rfl, rfl⟩
  | x :: xs, v :: ws, hl, hx => by
    have h := map_setW xs ws (by simpa using hl) fun y hy => hx y (List.mem_cons_of_mem _ hy)
    have h1 := hx x (List.mem_cons_self ..)
    simp only [setW, List.zipWith_cons_cons, List.map_cons] at h ⊢
    rw [h.1, h.2]
    refine ⟨?_, rfl⟩
    congr 1
    obtain ⟨a, b, c, d⟩ := x
    dsimp only at h1
    subst h1
    rfl
theorem raw_of {a : Raw} (h : okRaw a) : rawOf (txOf a) a.2.1.1 = a ∧ witOf (txOf a) = a.2.1.1 := by
  obtain ⟨v, ⟨b, xs⟩, os, ws, k⟩ := a
  obtain ⟨-, h2, -, h4, -⟩ := h
  dsimp only at h2 h4 ⊢
  have hx : ∀ x ∈ xs, x.wit = [] := fun x hx => (h2.2 x hx).2.2.2
  cases b
  · have h5 : ws = [] := h4
    subst h5
    refine ⟨?_, ?_⟩
    · show (v, (false, xs.map bareIn), os, [], k) = _
      have : xs.map bareIn = xs := by
        conv => rhs; rw [← List.map_id xs]
        refine List.map_congr_left fun x hx' => ?_
        have h1 := hx x hx'
        obtain ⟨a, b, c, d⟩ := x
        dsimp only at h1
        subst h1
        rfl
      rw [this]
    · show (xs.any fun x => decide (0 < x.wit.length)) = false
      rw [List.any_eq_false]
      intro x hx'
      rw [hx x hx']
      simp
  · have h5 : (ws.length = xs.length ∧ ∀ x ∈ ws, okWit x) ∧ anyW ws = true := h4
    obtain ⟨h6, h7⟩ := map_setW xs ws h5.1.1.symm hx
    refine ⟨?_, ?_⟩
    · show (v, (true, (setW xs ws).map bareIn), os, (setW xs ws).map (·.wit), k) = _
      rw [h6, h7]
    · rw [← anyW_of]
      show anyW ((setW xs ws).map (·.wit)) = true
      rw [h7]
      exact h5.2
theorem dec_of {l : List UInt8} {a : Raw} (h : allZ l ⟨0, 0⟩ = (⟨l.length, 0⟩, a)) (hc : checkOf (txOf a) = 0) : decZ l = (txOf a, l.length, 0) := by
  unfold decZ endZ
  rw [h]
  dsimp only
  have h1 : ¬ (l.length < l.length ∧ (0 : Int) = 0) := fun h => Nat.lt_irrefl _ h.1
  rw [if_neg h1]
  dsimp only
  rw [if_pos rfl, if_pos hc]
theorem all_back {t : PTx} (h : OkP t) {b : Bool} (hb : b = true → witOf t = true) (r : List UInt8) : allZ (encL t b ++ r) ⟨0, 0⟩ = (⟨(encL t b).length, 0⟩, rawOf t b) := by
  have h1 := allZ_psr'.back (encL t b ++ r) ⟨0, 0⟩ (rawOf t b) r (raw_ok h hb) rfl (Nat.zero_le _) (by rw [raw_enc]; rfl)
  rw [raw_enc, Nat.zero_add] at h1
  exact h1
theorem dec_back {t : PTx} (h : OkP t) (hc : checkOf t = 0) : decZ (encL t (witOf t)) = (t, (encL t (witOf t)).length, 0) := by
  have h1 := all_back h (b := witOf t) (fun h => h) []
  rw [List.append_nil] at h1
  have h2 := dec_of h1 (by rw [raw_wit]; exact hc)
  rw [raw_wit] at h2
  exact h2
theorem dec_bare {t : PTx} (h : OkP t) (hc : checkOf (bareTx t) = 0) : decZ (encL t false) = (bareTx t, (encL t false).length, 0) := by
  have h1 := all_back h (b := false) (fun h => by simp at h) []
  rw [List.append_nil] at h1
  exact dec_of h1 hc
theorem dec_more {t : PTx} (h : OkP t) {m : List UInt8} (hm : m ≠ []) : decZ (encL t (witOf t) ++ m) = (noTx, (encL t (witOf t)).length, 4) := by
  have h1 := all_back h (b := witOf t) (fun h => h) m
  have h2 := List.length_pos_iff.2 hm
  unfold decZ endZ
  rw [h1]
  dsimp only
  rw [if_pos (And.intro (show (encL t (witOf t)).length < (encL t (witOf t) ++ m).length by rw [List.length_append]; omega) rfl)]
  dsimp only
  rw [if_neg four_ne]
theorem dec_bound (l : List UInt8) : (decZ l).2.1 ≤ l.length ∧ ((decZ l).2.2 ≠ 0 → (decZ l).1 = noTx) := by
  have h := (allZ_psr'.bound l ⟨0, 0⟩ rfl (Nat.zero_le _)).2
  have h1 : (endZ l (allZ l ⟨0, 0⟩).1).at_ ≤ l.length := by
    unfold endZ
    split <;> exact h
  unfold decZ
  split
  · split
    · exact ⟨Nat.le_refl _, fun h => absurd rfl h⟩
    · exact ⟨h1, fun _ => rfl⟩
  · exact ⟨h1, fun _ => rfl⟩
theorem dec_cut {t : PTx} (h : OkP t) {c : Nat} (hc : c < (encL t (witOf t)).length) : (decZ ((encL t (witOf t)).take c)).2.2 = 5 := by
  have h1 := allZ_psr'.short ((encL t (witOf t)).take c) ⟨0, 0⟩ (rawOf t (witOf t)) ((encL t (witOf t)).take c) ((encL t (witOf t)).drop c) (raw_ok h (fun h => h)) rfl (Nat.zero_le _) rfl
    (by rw [raw_enc, List.take_append_drop]) (by intro h; have := congrArg List.length h; rw [List.length_drop, List.length_nil] at this; omega)
  unfold decZ
  have h2 : (endZ ((encL t (witOf t)).take c) (allZ ((encL t (witOf t)).take c) ⟨0, 0⟩).1).err = 5 := by
    unfold endZ
    rw [if_neg (fun hh => five_ne (h1 ▸ hh.2))]
    exact h1
  rw [if_neg (fun hh => five_ne (h2 ▸ hh))]
  exact h2
theorem dec_again {l : List UInt8} (h : (decZ l).2.2 = 0) : encL (decZ l).1 (witOf (decZ l).1) = l ∧ (decZ l).2.1 = l.length ∧ checkOf (decZ l).1 = 0 := by
  unfold decZ at h ⊢
  split at h
  · rename_i h1
    split at h
    · rename_i h2
      rw [if_pos h1, if_pos h2]
      dsimp only
      refine ⟨?_, rfl, h2⟩
      have h0 : (allZ l ⟨0, 0⟩).1.err = 0 := by
        unfold endZ at h1
        split at h1
        · exact absurd h1 four_ne
        · exact h1
      have h3 : ¬ (allZ l ⟨0, 0⟩).1.at_ < l.length := fun h3 => by
        unfold endZ at h1
        rw [if_pos ⟨h3, h0⟩] at h1
        exact absurd h1 four_ne
      obtain ⟨h4, h5, r, h6⟩ := allZ_psr'.next (l := l) (z := ⟨0, 0⟩) rfl (Nat.zero_le _) h0
      obtain ⟨h7, h8⟩ := raw_of h4
      rw [h5] at h3
      have h6' : l = rawL (allZ l ⟨0, 0⟩).2 ++ r := h6
      have hr : r = [] := by
        have := congrArg List.length h6'
        rw [List.length_append] at this
        dsimp only at h3
        exact List.eq_nil_of_length_eq_zero (by omega)
      rw [h8, ← raw_enc, h7]
      rw [hr, List.append_nil] at h6'
      exact h6'.symm
    · rename_i h2
      exact absurd h h2
  · rename_i h1
    exact absurd h h1
end Go.Proofs.Ytmcknjldimnaoaa
