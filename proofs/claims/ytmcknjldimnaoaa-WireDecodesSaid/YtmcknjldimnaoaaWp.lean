/-
  Reading a transaction of bytes, in plain: what a parser is, and that it answers what was written. Conditions: none.
-/
import Derived.Test.YtmcknjldimnaoaaWa
namespace Go.Proofs.Ytmcknjldimnaoaa
set_option linter.unusedVariables false
set_option linter.unusedSimpArgs false

theorem leN_leB (n : Nat) : ∀ k, leN (leB n k) = n % 256 ^ k
  | 0 => by simp [leB, leN, Nat.mod_one]
  | k + 1 => by
    rw [leB, leN_append, leN_leB n k, leB_length]
    have h1 : (UInt8.ofNat (n / 256 ^ k)).toNat = n / 256 ^ k % 256 := by simp
    rw [h1, Nat.pow_succ, Nat.mod_mul, Nat.mul_comm (n / 256 ^ k % 256)]
theorem leN_leB' {n k : Nat} (h : n < 256 ^ k) : leN (leB n k) = n := by rw [leN_leB, Nat.mod_eq_of_lt h]
theorem leN_inj : ∀ (p q : List UInt8), p.length = q.length → leN p = leN q → p = q
  | [], [], _, _ => rfl
  | a :: p, b :: q, hl, h => by
    simp only [leN] at h
    have ha := a.toNat_lt
    have hb := b.toNat_lt
    have h1 : a.toNat = b.toNat := by omega
    have h2 : leN p = leN q := by omega
    rw [UInt8.toNat_inj.1 h1, leN_inj p q (by simpa using hl) h2]
theorem leB_leN (p : List UInt8) : leB (leN p) p.length = p :=
  leN_inj _ _ (leB_length _ _) (leN_leB' (leN_lt p))

/-- Where a reader is, and its error. -/
structure Zst where
  at_ : Nat
  err : Int
def pt (l : List UInt8) (i k : Nat) : List UInt8 := (l.drop i).take k
abbrev Prs (α : Type) := List UInt8 → Zst → Zst × α
/-- A parser that reads just what is written by q, of values that are ok. -/
structure Psr {α : Type} (F : Prs α) (q : α → List UInt8) (ok : α → Prop) : Prop where
  stay : ∀ l z, z.err ≠ 0 → (F l z).1 = z
  bound : ∀ l z, z.err = 0 → z.at_ ≤ l.length → z.at_ ≤ (F l z).1.at_ ∧ (F l z).1.at_ ≤ l.length
  back : ∀ l z x r, ok x → z.err = 0 → z.at_ ≤ l.length → l.drop z.at_ = q x ++ r → F l z = (⟨z.at_ + (q x).length, 0⟩, x)
  again : ∀ l z, z.err = 0 → z.at_ ≤ l.length → (F l z).1.err = 0 → ok (F l z).2 ∧ ∃ r, l.drop z.at_ = q (F l z).2 ++ r
  short : ∀ l z x p r, ok x → z.err = 0 → z.at_ ≤ l.length → l.drop z.at_ = p → q x = p ++ r → r ≠ [] → (F l z).1.err = 5
def seqZ {α β : Type} (F : Prs α) (G : α → Prs β) : Prs (α × β) := fun l z => ((G (F l z).2 l (F l z).1).1, ((F l z).2, (G (F l z).2 l (F l z).1).2))
def mapZ {α β : Type} (f : α → β) (F : Prs α) : Prs β := fun l z => ((F l z).1, f (F l z).2)
/-- One parser, so many times. -/
def repZ {α : Type} (F : Prs α) : Nat → Prs (List α)
  | 0 => fun _ z => (z, [])
  | n + 1 => fun l z => ((F l (repZ F n l z).1).1, (repZ F n l z).2 ++ [(F l (repZ F n l z).1).2])
theorem drop_len {l a r : List UInt8} {i : Nat} (h : l.drop i = a ++ r) : l.drop (i + a.length) = r := by
  rw [← List.drop_drop, h, List.drop_left]
theorem drop_le {l a r : List UInt8} {i : Nat} (hi : i ≤ l.length) (h : l.drop i = a ++ r) : i + a.length ≤ l.length := by
  have := congrArg List.length h
  rw [List.length_drop, List.length_append] at this
  omega
theorem Psr.next {α : Type} {F : Prs α} {q : α → List UInt8} {ok : α → Prop} (h : Psr F q ok) {l : List UInt8} {z : Zst} (hz : z.err = 0) (hl : z.at_ ≤ l.length) (he : (F l z).1.err = 0) :
    ok (F l z).2 ∧ (F l z).1 = ⟨z.at_ + (q (F l z).2).length, 0⟩ ∧ ∃ r, l.drop z.at_ = q (F l z).2 ++ r := by
  obtain ⟨h1, r, h2⟩ := h.again l z hz hl he
  exact ⟨h1, congrArg Prod.fst (h.back l z _ r h1 hz hl h2), r, h2⟩
theorem Psr.seq {α β : Type} {F : Prs α} {G : α → Prs β} {q : α → List UInt8} {ok : α → Prop} {q' : α → β → List UInt8} {ok' : α → β → Prop}
    (hF : Psr F q ok) (hG : ∀ x, Psr (G x) (q' x) (ok' x)) : Psr (seqZ F G) (fun x => q x.1 ++ q' x.1 x.2) (fun x => ok x.1 ∧ ok' x.1 x.2) where
  stay l z hz := by
    have h1 := hF.stay l z hz
    show (G (F l z).2 l (F l z).1).1 = z
    rw [(hG _).stay l _ (by rw [h1]; exact hz), h1]
  bound l z hz hl := by
    show _ ≤ (G (F l z).2 l (F l z).1).1.at_ ∧ (G (F l z).2 l (F l z).1).1.at_ ≤ _
    have h1 := hF.bound l z hz hl
    by_cases he : (F l z).1.err = 0
    · have h2 := (hG (F l z).2).bound l _ he h1.2
      exact ⟨Nat.le_trans h1.1 h2.1, h2.2⟩
    · rw [(hG _).stay l _ he]
      exact h1
  back l z x r hx hz hl hd := by
    obtain ⟨x, y⟩ := x
    simp only [List.append_assoc] at hd
    have h1 := hF.back l z x _ hx.1 hz hl hd
    have h2 := (hG x).back l ⟨z.at_ + (q x).length, 0⟩ y r hx.2 rfl (drop_le hl hd) (drop_len hd)
    unfold seqZ
    rw [h1]
    dsimp only
    rw [h2]
    simp [Nat.add_assoc]
  again l z hz hl he := by
    have he' : (G (F l z).2 l (F l z).1).1.err = 0 := he
    by_cases h0 : (F l z).1.err = 0
    · obtain ⟨h1, h2, r, h3⟩ := hF.next hz hl h0
      have hb := (hF.bound l z hz hl).2
      obtain ⟨h4, r', h5⟩ := (hG (F l z).2).again l _ h0 hb he'
      refine ⟨⟨h1, h4⟩, r', ?_⟩
      have h6 := drop_len h3
      rw [h2] at h5
      show l.drop z.at_ = (q (F l z).2 ++ q' (F l z).2 (G (F l z).2 l (F l z).1).2) ++ r'
      rw [h3, List.append_assoc]
      congr 1
      rw [← h6]
      rw [h2]
      exact h5
    · rw [(hG _).stay l _ h0] at he'
      exact absurd he' h0
  short l z x p r hx hz hl hd hq hr := by
    obtain ⟨x, y⟩ := x
    show (G (F l z).2 l (F l z).1).1.err = 5
    have hq' : q x ++ q' x y = p ++ r := hq
    rcases List.append_eq_append_iff.1 hq' with ⟨a, ha1, ha2⟩ | ⟨b, hb1, hb2⟩
    · have h1 := hF.back l z x a hx.1 hz hl (by rw [hd, ha1])
      rw [h1]
      dsimp only
      exact (hG x).short l ⟨z.at_ + (q x).length, 0⟩ y a r hx.2 rfl (drop_le hl (by rw [hd, ha1])) (drop_len (by rw [hd, ha1])) ha2 hr
    · by_cases hbn : b = []
      · subst hbn
        simp only [List.append_nil] at hb1
        simp only [List.nil_append] at hb2
        have h1 := hF.back l z x [] hx.1 hz hl (by rw [hd, hb1, List.append_nil])
        rw [h1]
        dsimp only
        exact (hG x).short l ⟨z.at_ + (q x).length, 0⟩ y [] r hx.2 rfl (drop_le hl (a := q x) (r := []) (by rw [hd, hb1, List.append_nil])) (drop_len (by rw [hd, hb1, List.append_nil])) hb2.symm hr
      · have h1 := hF.short l z x p b hx.1 hz hl hd hb1 hbn
        rw [(hG _).stay l _ (by rw [h1]; decide)]
        exact h1
theorem Psr.map {α β : Type} {F : Prs α} {q : α → List UInt8} {ok : α → Prop} (hF : Psr F q ok) (f : α → β) (g : β → α) {q' : β → List UInt8} {ok' : β → Prop}
    (h1 : ∀ x, ok x → ok' (f x) ∧ q' (f x) = q x) (h2 : ∀ y, ok' y → ok (g y) ∧ f (g y) = y) : Psr (mapZ f F) q' ok' where
  stay l z hz := hF.stay l z hz
  bound l z hz hl := hF.bound l z hz hl
  back l z y r hy hz hl hd := by
    obtain ⟨h3, h4⟩ := h2 y hy
    have h5 : q' y = q (g y) := by rw [← h4, (h1 _ h3).2, h4]
    rw [h5] at hd ⊢
    unfold mapZ
    rw [hF.back l z (g y) r h3 hz hl hd, h4]
  again l z hz hl he := by
    obtain ⟨h3, r, h4⟩ := hF.again l z hz hl he
    exact ⟨(h1 _ h3).1, r, by show _ = q' (f (F l z).2) ++ r; rw [(h1 _ h3).2]; exact h4⟩
  short l z y p r hy hz hl hd hq hr := by
    obtain ⟨h3, h4⟩ := h2 y hy
    have h5 : q' y = q (g y) := by rw [← h4, (h1 _ h3).2, h4]
    exact hF.short l z (g y) p r h3 hz hl hd (h5 ▸ hq) hr
theorem Psr.mono {α : Type} {F : Prs α} {q q' : α → List UInt8} {ok ok' : α → Prop} (hF : Psr F q ok) (h1 : ∀ x, ok x ↔ ok' x) (h2 : ∀ x, ok x → q x = q' x) : Psr F q' ok' := by
  have h := hF.map (β := α) (f := id) (g := id) (q' := q') (ok' := ok') (fun x hx => ⟨(h1 x).1 hx, (h2 x hx).symm⟩) (fun y hy => ⟨(h1 y).2 hy, rfl⟩)
  exact h
theorem Psr.rep {α : Type} {F : Prs α} {q : α → List UInt8} {ok : α → Prop} (hF : Psr F q ok) : ∀ n, Psr (repZ F n) (fun xs => xs.flatMap q) (fun xs => xs.length = n ∧ ∀ x ∈ xs, ok x)
  | 0 => {
      stay := fun l z hz => rfl
      bound := fun l z hz hl => ⟨Nat.le_refl _, hl⟩
      back := fun l z x r hx hz hl hd => by
        obtain rfl := List.eq_nil_of_length_eq_zero hx.1
        obtain ⟨a, e⟩ := z
        obtain rfl : e = 0 := hz
        rfl
      again := fun l z hz hl he => ⟨⟨rfl, fun x hx => by simp [repZ] at hx⟩, _, rfl⟩
      short := fun l z x p r hx hz hl hd hq hr => by
        obtain rfl := List.eq_nil_of_length_eq_zero hx.1
        simp only [List.flatMap_nil] at hq
        have := List.append_eq_nil_iff.1 hq.symm
        exact absurd this.2 hr }
  | n + 1 => by
    have h := (hF.rep n).seq (G := fun _ => F) (fun _ => hF)
    refine h.map (fun a => a.1 ++ [a.2]) (fun xs => (xs.dropLast, xs.getLastD (F [] ⟨0, 1⟩).2)) ?_ ?_
    · rintro ⟨xs, x⟩ ⟨⟨h1, h2⟩, h3⟩
      refine ⟨⟨by simp [h1], fun y hy => ?_⟩, by simp⟩
      rcases List.mem_append.1 hy with h | h
      · exact h2 y h
      · rw [List.mem_singleton.1 h]; exact h3
    · rintro xs ⟨h1, h2⟩
      have hne : xs ≠ [] := by intro h; rw [h] at h1; simp at h1
      have hg : xs.getLastD (F [] ⟨0, 1⟩).2 = xs.getLast hne := by
        cases xs with
        | nil => exact absurd rfl hne
        | cons a b => rfl
      refine ⟨⟨⟨by simp [h1], fun y hy => h2 y ((List.dropLast_sublist xs).subset hy)⟩, ?_⟩, ?_⟩
      · rw [hg]; exact h2 _ (List.getLast_mem hne)
      · dsimp only; rw [hg, List.dropLast_concat_getLast]

theorem four_ne : ¬ (4 : Int) = 0 := by decide
theorem five_ne : ¬ (5 : Int) = 0 := by decide
/-- A number of so many bytes. -/
def numZ (k most : Nat) (e : Int) : Prs Nat := fun l z =>
  if z.err ≠ 0 then (z, 0) else if l.length < z.at_ + k then (⟨z.at_, 5⟩, 0) else if most < leN (pt l z.at_ k) then (⟨z.at_, e⟩, 0) else (⟨z.at_ + k, 0⟩, leN (pt l z.at_ k))
theorem pt_len {l : List UInt8} {i k : Nat} (h : i + k ≤ l.length) : (pt l i k).length = k := by
  unfold pt
  rw [List.length_take, List.length_drop]
  omega
theorem pt_drop {l a r : List UInt8} {i k : Nat} (h : l.drop i = a ++ r) (hk : a.length = k) : pt l i k = a := by
  unfold pt
  rw [h, ← hk, List.take_left]
theorem pt_split (l : List UInt8) (i k : Nat) : l.drop i = pt l i k ++ (l.drop i).drop k := (List.take_append_drop k _).symm
theorem numZ_psr (k most : Nat) (e : Int) (he : e ≠ 0) : Psr (numZ k most e) (fun n => leB n k) (fun n => n ≤ most ∧ n < 256 ^ k) where
  stay l z hz := by unfold numZ; rw [if_pos hz]
  bound l z hz hl := by
    unfold numZ
    rw [if_neg (fun h => h hz)]
    split
    · exact ⟨Nat.le_refl _, hl⟩
    · split
      · exact ⟨Nat.le_refl _, hl⟩
      · exact ⟨Nat.le_add_right _ _, by dsimp only; omega⟩
  back l z x r hx hz hl hd := by
    have h1 := drop_le hl hd
    rw [leB_length] at h1 ⊢
    unfold numZ
    rw [if_neg (fun h => h hz), if_neg (by omega), pt_drop hd (leB_length _ _), leN_leB' hx.2, if_neg (by omega)]
  again l z hz hl h0 := by
    unfold numZ at h0 ⊢
    rw [if_neg (fun h => h hz)] at h0 ⊢
    split at h0
    · exact absurd h0 five_ne
    · rename_i h1
      rw [if_neg h1]
      split at h0
      · exact absurd h0 he
      · rename_i h2
        rw [if_neg h2]
        have h3 := leN_lt (pt l z.at_ k)
        rw [pt_len (by omega)] at h3
        refine ⟨⟨by dsimp only; omega, h3⟩, (l.drop z.at_).drop k, (pt_split l z.at_ k).trans ?_⟩
        congr 1
        have h4 := leB_leN (pt l z.at_ k)
        rw [pt_len (by omega)] at h4
        exact h4.symm
  short l z x p r hx hz hl hd hq hr := by
    have h1 := congrArg List.length hq
    rw [leB_length, List.length_append, ← hd, List.length_drop] at h1
    have h2 := List.length_pos_iff.2 hr
    unfold numZ
    rw [if_neg (fun h => h hz), if_pos (by omega)]

/-- So many bytes, as a text. -/
def textZ (n : Nat) : Prs ByteArray := fun l z =>
  if z.err ≠ 0 then (z, bL []) else if l.length < z.at_ + n then (⟨z.at_, 5⟩, bL []) else (⟨z.at_ + n, 0⟩, bL (pt l z.at_ n))
theorem textZ_psr (n : Nat) : Psr (textZ n) (fun s => s.data.toList) (fun s => s.size = n) where
  stay l z hz := by unfold textZ; rw [if_pos hz]
  bound l z hz hl := by
    unfold textZ
    rw [if_neg (fun h => h hz)]
    split
    · exact ⟨Nat.le_refl _, hl⟩
    · exact ⟨Nat.le_add_right _ _, by dsimp only; omega⟩
  back l z x r hx hz hl hd := by
    have hx2 : x.data.toList.length = n := by rw [data_len]; exact hx
    have h1 := drop_le hl hd
    unfold textZ
    rw [if_neg (fun h => h hz), if_neg (by omega), pt_drop hd hx2, bL_data, hx2]
  again l z hz hl h0 := by
    unfold textZ at h0 ⊢
    rw [if_neg (fun h => h hz)] at h0 ⊢
    split at h0
    · exact absurd h0 five_ne
    · rename_i h1
      rw [if_neg h1]
      refine ⟨by show (bL (pt l z.at_ n)).size = n; rw [bL_size, pt_len (by omega)], (l.drop z.at_).drop n, (pt_split l z.at_ n).trans ?_⟩
      dsimp only
      rw [bL_list]
  short l z x p r hx hz hl hd hq hr := by
    have h1 := congrArg List.length hq
    rw [List.length_append, ← hd, List.length_drop, data_len, hx] at h1
    have h2 := List.length_pos_iff.2 hr
    unfold textZ
    rw [if_neg (fun h => h hz), if_pos (by omega)]
def byteAt (l : List UInt8) (i : Nat) : Nat := (l.getD i 0).toNat
def kOf (b : Nat) : Nat := if b = 253 then 2 else if b = 254 then 4 else if b = 255 then 8 else 0
def vnum (l : List UInt8) (i : Nat) : Nat := if kOf (byteAt l i) = 0 then byteAt l i else leN (pt l (i + 1) (kOf (byteAt l i)))
/-- A number as layer 3 has it: it, the place behind, the error. -/
def vgetL (l : List UInt8) (i : Nat) : Nat × Nat × Int :=
  if l.length ≤ i then (0, 0, 5) else if l.length < i + 1 + kOf (byteAt l i) then (0, 0, 5) else
  if (vintL (vnum l i)).length = 1 + kOf (byteAt l i) then (vnum l i, i + 1 + kOf (byteAt l i), 0) else (0, 0, 4)
def cntZ (least most : Nat) (e : Int) : Prs Nat := fun l z =>
  if z.err ≠ 0 then (z, 0) else if (vgetL l z.at_).2.2 ≠ 0 then (⟨z.at_, (vgetL l z.at_).2.2⟩, 0) else
  if (vgetL l z.at_).1 < least ∨ most < (vgetL l z.at_).1 then (⟨z.at_, e⟩, 0) else (⟨(vgetL l z.at_).2.1, 0⟩, (vgetL l z.at_).1)
theorem u8_of_toNat (b : UInt8) : UInt8.ofNat b.toNat = b := by simp
theorem leB_one (b : UInt8) : leB b.toNat 1 = [b] := by simp [leB]
/-- A first byte and what is behind it: it's just what is written of the number. -/
theorem vint_first (b : UInt8) (p : List UInt8) (hp : p.length = kOf b.toNat) :
    (vintL (if kOf b.toNat = 0 then b.toNat else leN p)).length = 1 + kOf b.toNat ↔ vintL (if kOf b.toNat = 0 then b.toNat else leN p) = b :: p := by
  refine ⟨fun h => ?_, fun h => by rw [h, List.length_cons, hp, Nat.add_comm]⟩
  have hb := b.toNat_lt
  have hlt := leN_lt p
  have h253 : ∀ n, leB n 1 = [UInt8.ofNat n] := fun n => by simp [leB]
  have hbn : ∀ n, b.toNat = n → UInt8.ofNat n = b := fun n h => by rw [← h]; exact u8_of_toNat b
  have hpb := leB_leN p
  unfold kOf at hp h ⊢
  unfold vintL at h ⊢
  split at hp
  · rename_i h1
    simp only [h1, if_true, if_neg (show ¬ (2 = 0) by decide)] at h ⊢
    rw [hp] at hlt hpb
    split at h
    · rw [leB_length] at h; omega
    · rename_i h2
      rw [if_neg h2, if_pos (by omega), hpb, h253, hbn 253 h1]; rfl
  · rename_i h1
    split at hp
    · rename_i h1'
      simp only [h1', if_true, if_neg (show ¬ (254 = 253) by decide), if_neg (show ¬ (4 = 0) by decide)] at h ⊢
      rw [hp] at hlt hpb
      split at h
      · rw [leB_length] at h; omega
      · rename_i h2
        rw [if_neg h2]
        split at h
        · rw [List.length_append, leB_length, leB_length] at h; omega
        · rename_i h3
          rw [if_neg h3, if_pos (by omega), hpb, h253, hbn 254 h1']; rfl
    · rename_i h1'
      split at hp
      · rename_i h1''
        simp only [h1'', if_true, if_neg (show ¬ (255 = 253) by decide), if_neg (show ¬ (255 = 254) by decide), if_neg (show ¬ (8 = 0) by decide)] at h ⊢
        rw [hp] at hlt hpb
        split at h
        · rw [leB_length] at h; omega
        · rename_i h2
          rw [if_neg h2]
          split at h
          · rw [List.length_append, leB_length, leB_length] at h; omega
          · rename_i h3
            rw [if_neg h3]
            split at h
            · rw [List.length_append, leB_length, leB_length] at h; omega
            · rename_i h4
              rw [if_neg h4, hpb, h253, hbn 255 h1'']; rfl
      · rename_i h1''
        obtain rfl := List.eq_nil_of_length_eq_zero hp
        simp only [if_neg h1, if_neg h1', if_neg h1'', if_true] at h ⊢
        rw [if_pos (by omega), leB_one]
theorem vintL_first (n : Nat) : ∃ b p, vintL n = b :: p ∧ p.length = kOf b.toNat ∧ (n < 18446744073709551616 → (if kOf b.toNat = 0 then b.toNat else leN p) = n) ∧ (b = 0 → n = 0) := by
  have h253 : ∀ n, leB n 1 = [UInt8.ofNat n] := fun n => by simp [leB]
  unfold vintL
  split
  · rename_i h
    have h1 : (UInt8.ofNat n).toNat = n := by simp; omega
    have hk : kOf n = 0 := by unfold kOf; rw [if_neg (by omega), if_neg (by omega), if_neg (by omega)]
    refine ⟨UInt8.ofNat n, [], h253 n, by rw [h1, hk]; rfl, fun _ => by rw [h1, hk]; rfl, fun h0 => by rw [h0] at h1; simpa using h1.symm⟩
  · split
    · exact ⟨253, leB n 2, by rw [h253]; rfl, leB_length n 2, fun _ => leN_leB' (k := 2) (by omega), fun h => absurd h (by decide)⟩
    · split
      · exact ⟨254, leB n 4, by rw [h253]; rfl, leB_length n 4, fun _ => leN_leB' (k := 4) (by omega), fun h => absurd h (by decide)⟩
      · exact ⟨255, leB n 8, by rw [h253]; rfl, leB_length n 8, fun h => leN_leB' (k := 8) (by omega), fun h => absurd h (by decide)⟩
theorem byteAt_drop {l r : List UInt8} {i : Nat} {b : UInt8} (h : l.drop i = b :: r) : byteAt l i = b.toNat := by
  unfold byteAt
  have h1 : l[i]? = some b := by
    have := congrArg (·[0]?) h
    simpa using this
  rw [List.getD_eq_getElem?_getD, h1]; rfl
theorem drop_cons {l : List UInt8} {i : Nat} (h : i < l.length) : ∃ b, l.drop i = b :: l.drop (i + 1) := ⟨l[i], List.drop_eq_getElem_cons h⟩
theorem cntZ_psr (least most : Nat) (e : Int) (he : e ≠ 0) (hm : most < 18446744073709551616) : Psr (cntZ least most e) vintL (fun n => least ≤ n ∧ n ≤ most) where
  stay l z hz := by unfold cntZ; rw [if_pos hz]
  bound l z hz hl := by
    unfold cntZ
    rw [if_neg (fun h => h hz)]
    split
    · exact ⟨Nat.le_refl _, hl⟩
    · rename_i h1
      split
      · exact ⟨Nat.le_refl _, hl⟩
      · unfold vgetL at h1 ⊢
        split at h1
        · exact absurd (by decide) h1
        · rename_i h2
          split at h1
          · exact absurd (by decide) h1
          · rename_i h3
            rw [if_neg h2, if_neg h3]
            split
            · dsimp only; omega
            · rename_i h4
              rw [if_neg h4] at h1
              exact absurd (by decide) h1
  back l z x r hx hz hl hd := by
    obtain ⟨b, p, h1, h2, h3, -⟩ := vintL_first x
    have h3 := h3 (by omega)
    rw [h1] at hd ⊢
    have h4 := drop_le hl hd
    have hb : byteAt l z.at_ = b.toNat := byteAt_drop hd
    have hp : pt l (z.at_ + 1) (kOf b.toNat) = p := pt_drop (drop_len (a := [b]) hd) h2
    have hv : vnum l z.at_ = x := by unfold vnum; rw [hb, hp]; exact h3
    rw [List.length_cons] at h4 ⊢
    have hg : vgetL l z.at_ = (x, z.at_ + (p.length + 1), 0) := by
      unfold vgetL
      rw [if_neg (by omega), hb, if_neg (by omega), hv, if_pos (by rw [h1, List.length_cons]; omega), ← h2, Nat.add_right_comm, Nat.add_assoc]
    unfold cntZ
    rw [if_neg (fun h => h hz), hg, if_neg (by simp), if_neg (by dsimp only; omega)]
  again l z hz hl h0 := by
    unfold cntZ at h0 ⊢
    rw [if_neg (fun h => h hz)] at h0 ⊢
    split at h0
    · rename_i h1; exact absurd h0 h1
    · rename_i h1
      rw [if_neg h1]
      split at h0
      · exact absurd h0 he
      · rename_i h2
        rw [if_neg h2]
        dsimp only
        refine ⟨by omega, ?_⟩
        unfold vgetL at h1 ⊢
        split at h1
        · exact absurd (by decide) h1
        · rename_i h3
          split at h1
          · exact absurd (by decide) h1
          · rename_i h4
            split at h1
            · rename_i h5
              rw [if_neg h3, if_neg h4, if_pos h5]
              dsimp only
              obtain ⟨b, hb⟩ := drop_cons (show z.at_ < l.length by omega)
              have hb2 := byteAt_drop hb
              rw [hb2] at h4 h5
              have hsp := pt_split l (z.at_ + 1) (kOf b.toNat)
              have hv : vnum l z.at_ = if kOf b.toNat = 0 then b.toNat else leN (pt l (z.at_ + 1) (kOf b.toNat)) := by unfold vnum; rw [hb2]
              rw [hv] at h5 ⊢
              rw [(vint_first b _ (pt_len (by omega))).1 h5]
              exact ⟨_, by rw [hb, hsp]; rfl⟩
            · exact absurd (by decide) h1
  short l z x p r hx hz hl hd hq hr := by
    obtain ⟨b, q, h1, h2, -, -⟩ := vintL_first x
    rw [h1] at hq
    have hln := congrArg List.length hd
    rw [List.length_drop] at hln
    have hg : (vgetL l z.at_).2.2 = 5 := by
      cases p with
      | nil =>
        unfold vgetL
        rw [if_pos (by simp at hln; omega)]
      | cons b' p' =>
        rw [List.cons_append] at hq
        obtain ⟨rfl, hq2⟩ := List.cons.inj hq
        have hq3 := congrArg List.length hq2
        rw [List.length_append] at hq3
        have hr2 := List.length_pos_iff.2 hr
        rw [List.length_cons] at hln
        unfold vgetL
        rw [if_neg (by omega), byteAt_drop hd, if_pos (by omega)]
    unfold cntZ
    rw [if_neg (fun h => h hz), hg, if_pos (by decide)]
end Go.Proofs.Ytmcknjldimnaoaa
