/-
  RecPuts, part 5: the texts Wp, Wq, TxH, one after another. Conditions: none beyond those named at each.
-/
import Derived.Test.YtaooibocknemkaaGreatQ4RecPuts
import Derived.Test.YtaooibocknemkaaGreatCut
import Derived.Deep.RegionHeld
import Derived.Deep.DrawnRows
section
namespace Go.Proofs.YtaooibocknemkaaGreat
set_option linter.unusedVariables false
set_option linter.unusedSimpArgs false

theorem leN_leB (n : Nat) : ∀ k, leN (leB n k) = n % 256 ^ k
  | 0 => by simp [leB, leN, Nat.mod_one]
  | k + 1 => by
    rw [leB, leN_append, leN_leB n k, leB_length]
    have h1 : (UInt8.ofNat (n / 256 ^ k)).toNat = n / 256 ^ k % 256 := by simp
    rw [h1, Nat.pow_succ, Nat.mod_mul, Nat.mul_comm (n / 256 ^ k % 256)]
theorem leN_leB' {n k : Nat} (h : n < 256 ^ k) : leN (leB n k) = n := by rw [leN_leB, Nat.mod_eq_of_lt h]
theorem leN_inj : ∀ (p q : List UInt8), p.length = q.length → leN p = leN q → p = q
  | [], [], _, _ => rfl
  | a :: p, b :: q, hl, h => by
    simp only [leN] at h
    have ha := a.toNat_lt
    have hb := b.toNat_lt
    have h1 : a.toNat = b.toNat := by omega
    have h2 : leN p = leN q := by omega
    rw [UInt8.toNat_inj.1 h1, leN_inj p q (by simpa using hl) h2]
theorem leB_leN (p : List UInt8) : leB (leN p) p.length = p :=
  leN_inj _ _ (leB_length _ _) (leN_leB' (leN_lt p))

/-- Where a reader is, and its error. -/
structure Zst where
  at_ : Nat
  err : Int
def pt (l : List UInt8) (i k : Nat) : List UInt8 := (l.drop i).take k
abbrev Prs (α : Type) := List UInt8 → Zst → Zst × α
/-- A parser that reads just what is written by q, of values that are ok. -/
structure Psr {α : Type} (F : Prs α) (q : α → List UInt8) (ok : α → Prop) : Prop where
  stay : ∀ l z, z.err ≠ 0 → (F l z).1 = z
  bound : ∀ l z, z.err = 0 → z.at_ ≤ l.length → z.at_ ≤ (F l z).1.at_ ∧ (F l z).1.at_ ≤ l.length
  back : ∀ l z x r, ok x → z.err = 0 → z.at_ ≤ l.length → l.drop z.at_ = q x ++ r → F l z = (⟨z.at_ + (q x).length, 0⟩, x)
  again : ∀ l z, z.err = 0 → z.at_ ≤ l.length → (F l z).1.err = 0 → ok (F l z).2 ∧ ∃ r, l.drop z.at_ = q (F l z).2 ++ r
  short : ∀ l z x p r, ok x → z.err = 0 → z.at_ ≤ l.length → l.drop z.at_ = p → q x = p ++ r → r ≠ [] → (F l z).1.err = 5
def seqZ {α β : Type} (F : Prs α) (G : α → Prs β) : Prs (α × β) := fun l z => ((G (F l z).2 l (F l z).1).1, ((F l z).2, (G (F l z).2 l (F l z).1).2))
def mapZ {α β : Type} (f : α → β) (F : Prs α) : Prs β := fun l z => ((F l z).1, f (F l z).2)
/-- One parser, so many times. -/
def repZ {α : Type} (F : Prs α) : Nat → Prs (List α)
  | 0 => fun _ z => (z, [])
  | n + 1 => fun l z => ((F l (repZ F n l z).1).1, (repZ F n l z).2 ++ [(F l (repZ F n l z).1).2])
theorem drop_len {l a r : List UInt8} {i : Nat} (h : l.drop i = a ++ r) : l.drop (i + a.length) = r := by
  rw [← List.drop_drop, h, List.drop_left]
theorem drop_le {l a r : List UInt8} {i : Nat} (hi : i ≤ l.length) (h : l.drop i = a ++ r) : i + a.length ≤ l.length := by
  have := congrArg List.length h
  rw [List.length_drop, List.length_append] at this
  omega
theorem Psr.next {α : Type} {F : Prs α} {q : α → List UInt8} {ok : α → Prop} (h : Psr F q ok) {l : List UInt8} {z : Zst} (hz : z.err = 0) (hl : z.at_ ≤ l.length) (he : (F l z).1.err = 0) :
    ok (F l z).2 ∧ (F l z).1 = ⟨z.at_ + (q (F l z).2).length, 0⟩ ∧ ∃ r, l.drop z.at_ = q (F l z).2 ++ r := by
  obtain ⟨h1, r, h2⟩ := h.again l z hz hl he
  exact ⟨h1, congrArg Prod.fst (h.back l z _ r h1 hz hl h2), r, h2⟩
theorem Psr.seq {α β : Type} {F : Prs α} {G : α → Prs β} {q : α → List UInt8} {ok : α → Prop} {q' : α → β → List UInt8} {ok' : α → β → Prop}
    (hF : Psr F q ok) (hG : ∀ x, Psr (G x) (q' x) (ok' x)) : Psr (seqZ F G) (fun x => q x.1 ++ q' x.1 x.2) (fun x => ok x.1 ∧ ok' x.1 x.2) where
  stay l z hz := by
    have h1 := hF.stay l z hz
    show (G (F l z).2 l (F l z).1).1 = z
    rw [(hG _).stay l _ (by rw [h1]; exact hz), h1]
  bound l z hz hl := by
    show _ ≤ (G (F l z).2 l (F l z).1).1.at_ ∧ (G (F l z).2 l (F l z).1).1.at_ ≤ _
    have h1 := hF.bound l z hz hl
    by_cases he : (F l z).1.err = 0
    · have h2 := (hG (F l z).2).bound l _ he h1.2
      exact ⟨Nat.le_trans h1.1 h2.1, h2.2⟩
    · rw [(hG _).stay l _ he]
      exact h1
  back l z x r hx hz hl hd := by
    obtain ⟨x, y⟩ := x
    simp only [List.append_assoc] at hd
    have h1 := hF.back l z x _ hx.1 hz hl hd
    have h2 := (hG x).back l ⟨z.at_ + (q x).length, 0⟩ y r hx.2 rfl (drop_le hl hd) (drop_len hd)
    unfold seqZ
    rw [h1]
    dsimp only
    rw [h2]
    simp [Nat.add_assoc]
  again l z hz hl he := by
    have he' : (G (F l z).2 l (F l z).1).1.err = 0 := he
    by_cases h0 : (F l z).1.err = 0
    · obtain ⟨h1, h2, r, h3⟩ := hF.next hz hl h0
      have hb := (hF.bound l z hz hl).2
      obtain ⟨h4, r', h5⟩ := (hG (F l z).2).again l _ h0 hb he'
      refine ⟨⟨h1, h4⟩, r', ?_⟩
      have h6 := drop_len h3
      rw [h2] at h5
      show l.drop z.at_ = (q (F l z).2 ++ q' (F l z).2 (G (F l z).2 l (F l z).1).2) ++ r'
      rw [h3, List.append_assoc]
      congr 1
      rw [← h6]
      rw [h2]
      exact h5
    · rw [(hG _).stay l _ h0] at he'
      exact absurd he' h0
  short l z x p r hx hz hl hd hq hr := by
    obtain ⟨x, y⟩ := x
    show (G (F l z).2 l (F l z).1).1.err = 5
    have hq' : q x ++ q' x y = p ++ r := hq
    rcases List.append_eq_append_iff.1 hq' with ⟨a, ha1, ha2⟩ | ⟨b, hb1, hb2⟩
    · have h1 := hF.back l z x a hx.1 hz hl (by rw [hd, ha1])
      rw [h1]
      dsimp only
      exact (hG x).short l ⟨z.at_ + (q x).length, 0⟩ y a r hx.2 rfl (drop_le hl (by rw [hd, ha1])) (drop_len (by rw [hd, ha1])) ha2 hr
    · by_cases hbn : b = []
      · subst hbn
        simp only [List.append_nil] at hb1
        simp only [List.nil_append] at hb2
        have h1 := hF.back l z x [] hx.1 hz hl (by rw [hd, hb1, List.append_nil])
        rw [h1]
        dsimp only
        exact (hG x).short l ⟨z.at_ + (q x).length, 0⟩ y [] r hx.2 rfl (drop_le hl (a := q x) (r := []) (by rw [hd, hb1, List.append_nil])) (drop_len (by rw [hd, hb1, List.append_nil])) hb2.symm hr
      · have h1 := hF.short l z x p b hx.1 hz hl hd hb1 hbn
        rw [(hG _).stay l _ (by rw [h1]; decide)]
        exact h1
theorem Psr.map {α β : Type} {F : Prs α} {q : α → List UInt8} {ok : α → Prop} (hF : Psr F q ok) (f : α → β) (g : β → α) {q' : β → List UInt8} {ok' : β → Prop}
    (h1 : ∀ x, ok x → ok' (f x) ∧ q' (f x) = q x) (h2 : ∀ y, ok' y → ok (g y) ∧ f (g y) = y) : Psr (mapZ f F) q' ok' where
  stay l z hz := hF.stay l z hz
  bound l z hz hl := hF.bound l z hz hl
  back l z y r hy hz hl hd := by
    obtain ⟨h3, h4⟩ := h2 y hy
    have h5 : q' y = q (g y) := by rw [← h4, (h1 _ h3).2, h4]
    rw [h5] at hd ⊢
    unfold mapZ
    rw [hF.back l z (g y) r h3 hz hl hd, h4]
  again l z hz hl he := by
    obtain ⟨h3, r, h4⟩ := hF.again l z hz hl he
    exact ⟨(h1 _ h3).1, r, by show _ = q' (f (F l z).2) ++ r; rw [(h1 _ h3).2]; exact h4⟩
  short l z y p r hy hz hl hd hq hr := by
    obtain ⟨h3, h4⟩ := h2 y hy
    have h5 : q' y = q (g y) := by rw [← h4, (h1 _ h3).2, h4]
    exact hF.short l z (g y) p r h3 hz hl hd (h5 ▸ hq) hr
theorem Psr.mono {α : Type} {F : Prs α} {q q' : α → List UInt8} {ok ok' : α → Prop} (hF : Psr F q ok) (h1 : ∀ x, ok x ↔ ok' x) (h2 : ∀ x, ok x → q x = q' x) : Psr F q' ok' := by
  have h := hF.map (β := α) (f := id) (g := id) (q' := q') (ok' := ok') (fun x hx => ⟨(h1 x).1 hx, (h2 x hx).symm⟩) (fun y hy => ⟨(h1 y).2 hy, rfl⟩)
  exact h
theorem Psr.rep {α : Type} {F : Prs α} {q : α → List UInt8} {ok : α → Prop} (hF : Psr F q ok) : ∀ n, Psr (repZ F n) (fun xs => xs.flatMap q) (fun xs => xs.length = n ∧ ∀ x ∈ xs, ok x)
  | 0 => {
      stay := fun l z hz => rfl
      bound := fun l z hz hl => ⟨Nat.le_refl _, hl⟩
      back := fun l z x r hx hz hl hd => by
        obtain rfl := List.eq_nil_of_length_eq_zero hx.1
        obtain ⟨a, e⟩ := z
        obtain rfl : e = 0 := hz
        rfl
      again := fun l z hz hl he => ⟨⟨rfl, fun x hx => by simp [repZ] at hx⟩, _, rfl⟩
      short := fun l z x p r hx hz hl hd hq hr => by
        obtain rfl := List.eq_nil_of_length_eq_zero hx.1
        simp only [List.flatMap_nil] at hq
        have := List.append_eq_nil_iff.1 hq.symm
        exact absurd this.2 hr }
  | n + 1 => by
    have h := (hF.rep n).seq (G := fun _ => F) (fun _ => hF)
    refine h.map (fun a => a.1 ++ [a.2]) (fun xs => (xs.dropLast, xs.getLastD (F [] ⟨0, 1⟩).2)) ?_ ?_
    · rintro ⟨xs, x⟩ ⟨⟨h1, h2⟩, h3⟩
      refine ⟨⟨by simp [h1], fun y hy => ?_⟩, by simp⟩
      rcases List.mem_append.1 hy with h | h
      · exact h2 y h
      · rw [List.mem_singleton.1 h]; exact h3
    · rintro xs ⟨h1, h2⟩
      have hne : xs ≠ [] := by intro h; rw [h] at h1; simp at h1
      have hg : xs.getLastD (F [] ⟨0, 1⟩).2 = xs.getLast hne := by
        cases xs with
        | nil => exact absurd rfl hne
        | cons a b => rfl
      refine ⟨⟨⟨by simp [h1], fun y hy => h2 y ((List.dropLast_sublist xs).subset hy)⟩, ?_⟩, ?_⟩
      · rw [hg]; exact h2 _ (List.getLast_mem hne)
      · dsimp only; rw [hg, List.dropLast_concat_getLast]

theorem four_ne : ¬ (4 : Int) = 0 := by decide
theorem five_ne : ¬ (5 : Int) = 0 := by decide
/-- A number of so many bytes. -/
def numZ (k most : Nat) (e : Int) : Prs Nat := fun l z =>
  if z.err ≠ 0 then (z, 0) else if l.length < z.at_ + k then (⟨z.at_, 5⟩, 0) else if most < leN (pt l z.at_ k) then (⟨z.at_, e⟩, 0) else (⟨z.at_ + k, 0⟩, leN (pt l z.at_ k))
theorem pt_len {l : List UInt8} {i k : Nat} (h : i + k ≤ l.length) : (pt l i k).length = k := by
  unfold pt
  rw [List.length_take, List.length_drop]
  omega
theorem pt_drop {l a r : List UInt8} {i k : Nat} (h : l.drop i = a ++ r) (hk : a.length = k) : pt l i k = a := by
  unfold pt
  rw [h, ← hk, List.take_left]
theorem pt_split (l : List UInt8) (i k : Nat) : l.drop i = pt l i k ++ (l.drop i).drop k := (List.take_append_drop k _).symm
theorem numZ_psr (k most : Nat) (e : Int) (he : e ≠ 0) : Psr (numZ k most e) (fun n => leB n k) (fun n => n ≤ most ∧ n < 256 ^ k) where
  stay l z hz := by unfold numZ; rw [if_pos hz]
  bound l z hz hl := by
    unfold numZ
    rw [if_neg (fun h => h hz)]
    split
    · exact ⟨Nat.le_refl _, hl⟩
    · split
      · exact ⟨Nat.le_refl _, hl⟩
      · exact ⟨Nat.le_add_right _ _, by dsimp only; omega⟩
  back l z x r hx hz hl hd := by
    have h1 := drop_le hl hd
    rw [leB_length] at h1 ⊢
    unfold numZ
    rw [if_neg (fun h => h hz), if_neg (by omega), pt_drop hd (leB_length _ _), leN_leB' hx.2, if_neg (by omega)]
  again l z hz hl h0 := by
    unfold numZ at h0 ⊢
    rw [if_neg (fun h => h hz)] at h0 ⊢
    split at h0
    · exact absurd h0 five_ne
    · rename_i h1
      rw [if_neg h1]
      split at h0
      · exact absurd h0 he
      · rename_i h2
        rw [if_neg h2]
        have h3 := leN_lt (pt l z.at_ k)
        rw [pt_len (by omega)] at h3
        refine ⟨⟨by dsimp only; omega, h3⟩, (l.drop z.at_).drop k, (pt_split l z.at_ k).trans ?_⟩
        congr 1
        have h4 := leB_leN (pt l z.at_ k)
        rw [pt_len (by omega)] at h4
        exact h4.symm
  short l z x p r hx hz hl hd hq hr := by
    have h1 := congrArg List.length hq
    rw [leB_length, List.length_append, ← hd, List.length_drop] at h1
    have h2 := List.length_pos_iff.2 hr
    unfold numZ
    rw [if_neg (fun h => h hz), if_pos (by omega)]

/-- So many bytes, as a text. -/
def textZ (n : Nat) : Prs ByteArray := fun l z =>
  if z.err ≠ 0 then (z, bL []) else if l.length < z.at_ + n then (⟨z.at_, 5⟩, bL []) else (⟨z.at_ + n, 0⟩, bL (pt l z.at_ n))
theorem textZ_psr (n : Nat) : Psr (textZ n) (fun s => s.data.toList) (fun s => s.size = n) where
  stay l z hz := by unfold textZ; rw [if_pos hz]
  bound l z hz hl := by
    unfold textZ
    rw [if_neg (fun h => h hz)]
    split
    · exact ⟨Nat.le_refl _, hl⟩
    · exact ⟨Nat.le_add_right _ _, by dsimp only; omega⟩
  back l z x r hx hz hl hd := by
    have hx2 : x.data.toList.length = n := by rw [data_len]; exact hx
    have h1 := drop_le hl hd
    unfold textZ
    rw [if_neg (fun h => h hz), if_neg (by omega), pt_drop hd hx2, bL_data, hx2]
  again l z hz hl h0 := by
    unfold textZ at h0 ⊢
    rw [if_neg (fun h => h hz)] at h0 ⊢
    split at h0
    · exact absurd h0 five_ne
    · rename_i h1
      rw [if_neg h1]
      refine ⟨by show (bL (pt l z.at_ n)).size = n; rw [bL_size, pt_len (by omega)], (l.drop z.at_).drop n, (pt_split l z.at_ n).trans ?_⟩
      dsimp only
      rw [bL_list]
  short l z x p r hx hz hl hd hq hr := by
    have h1 := congrArg List.length hq
    rw [List.length_append, ← hd, List.length_drop, data_len, hx] at h1
    have h2 := List.length_pos_iff.2 hr
    unfold textZ
    rw [if_neg (fun h => h hz), if_pos (by omega)]
def byteAt (l : List UInt8) (i : Nat) : Nat := (l.getD i 0).toNat
def kOf (b : Nat) : Nat := if b = 253 then 2 else if b = 254 then 4 else if b = 255 then 8 else 0
def vnum (l : List UInt8) (i : Nat) : Nat := if kOf (byteAt l i) = 0 then byteAt l i else leN (pt l (i + 1) (kOf (byteAt l i)))
/-- A number as layer 3 has it: it, the place behind, the error. -/
def vgetL (l : List UInt8) (i : Nat) : Nat × Nat × Int :=
  if l.length ≤ i then (0, 0, 5) else if l.length < i + 1 + kOf (byteAt l i) then (0, 0, 5) else
  if (vintL (vnum l i)).length = 1 + kOf (byteAt l i) then (vnum l i, i + 1 + kOf (byteAt l i), 0) else (0, 0, 4)
def cntZ (least most : Nat) (e : Int) : Prs Nat := fun l z =>
  if z.err ≠ 0 then (z, 0) else if (vgetL l z.at_).2.2 ≠ 0 then (⟨z.at_, (vgetL l z.at_).2.2⟩, 0) else
  if (vgetL l z.at_).1 < least ∨ most < (vgetL l z.at_).1 then (⟨z.at_, e⟩, 0) else (⟨(vgetL l z.at_).2.1, 0⟩, (vgetL l z.at_).1)
theorem u8_of_toNat (b : UInt8) : UInt8.ofNat b.toNat = b := by simp
theorem leB_one (b : UInt8) : leB b.toNat 1 = [b] := by simp [leB]
/-- A first byte and what is behind it: it's just what is written of the number. -/
theorem vint_first (b : UInt8) (p : List UInt8) (hp : p.length = kOf b.toNat) :
    (vintL (if kOf b.toNat = 0 then b.toNat else leN p)).length = 1 + kOf b.toNat ↔ vintL (if kOf b.toNat = 0 then b.toNat else leN p) = b :: p := by
  refine ⟨fun h => ?_, fun h => by rw [h, List.length_cons, hp, Nat.add_comm]⟩
  have hb := b.toNat_lt
  have hlt := leN_lt p
  have h253 : ∀ n, leB n 1 = [UInt8.ofNat n] := fun n => by simp [leB]
  have hbn : ∀ n, b.toNat = n → UInt8.ofNat n = b := fun n h => by rw [← h]; exact u8_of_toNat b
  have hpb := leB_leN p
  unfold kOf at hp h ⊢
  unfold vintL at h ⊢
  split at hp
  · rename_i h1
    simp only [h1, if_true, if_neg (show ¬ (2 = 0) by decide)] at h ⊢
    rw [hp] at hlt hpb
    split at h
    · rw [leB_length] at h; omega
    · rename_i h2
      rw [if_neg h2, if_pos (by omega), hpb, h253, hbn 253 h1]; rfl
  · rename_i h1
    split at hp
    · rename_i h1'
      simp only [h1', if_true, if_neg (show ¬ (254 = 253) by decide), if_neg (show ¬ (4 = 0) by decide)] at h ⊢
      rw [hp] at hlt hpb
      split at h
      · rw [leB_length] at h; omega
      · rename_i h2
        rw [if_neg h2]
        split at h
        · rw [List.length_append, leB_length, leB_length] at h; omega
        · rename_i h3
          rw [if_neg h3, if_pos (by omega), hpb, h253, hbn 254 h1']; rfl
    · rename_i h1'
      split at hp
      · rename_i h1''
        simp only [h1'', if_true, if_neg (show ¬ (255 = 253) by decide), if_neg (show ¬ (255 = 254) by decide), if_neg (show ¬ (8 = 0) by decide)] at h ⊢
        rw [hp] at hlt hpb
        split at h
        · rw [leB_length] at h; omega
        · rename_i h2
          rw [if_neg h2]
          split at h
          · rw [List.length_append, leB_length, leB_length] at h; omega
          · rename_i h3
            rw [if_neg h3]
            split at h
            · rw [List.length_append, leB_length, leB_length] at h; omega
            · rename_i h4
              rw [if_neg h4, hpb, h253, hbn 255 h1'']; rfl
      · rename_i h1''
        obtain rfl := List.eq_nil_of_length_eq_zero hp
        simp only [if_neg h1, if_neg h1', if_neg h1'', if_true] at h ⊢
        rw [if_pos (by omega), leB_one]
theorem vintL_first (n : Nat) : ∃ b p, vintL n = b :: p ∧ p.length = kOf b.toNat ∧ (n < 18446744073709551616 → (if kOf b.toNat = 0 then b.toNat else leN p) = n) ∧ (b = 0 → n = 0) := by
  have h253 : ∀ n, leB n 1 = [UInt8.ofNat n] := fun n => by simp [leB]
  unfold vintL
  split
  · rename_i h
    have h1 : (UInt8.ofNat n).toNat = n := by simp; omega
    have hk : kOf n = 0 := by unfold kOf; rw [if_neg (by omega), if_neg (by omega), if_neg (by omega)]
    refine ⟨UInt8.ofNat n, [], h253 n, by rw [h1, hk]; rfl, fun _ => by rw [h1, hk]; rfl, fun h0 => by rw [h0] at h1; simpa using h1.symm⟩
  · split
    · exact ⟨253, leB n 2, by rw [h253]; rfl, leB_length n 2, fun _ => leN_leB' (k := 2) (by omega), fun h => absurd h (by decide)⟩
    · split
      · exact ⟨254, leB n 4, by rw [h253]; rfl, leB_length n 4, fun _ => leN_leB' (k := 4) (by omega), fun h => absurd h (by decide)⟩
      · exact ⟨255, leB n 8, by rw [h253]; rfl, leB_length n 8, fun h => leN_leB' (k := 8) (by omega), fun h => absurd h (by decide)⟩
theorem byteAt_drop {l r : List UInt8} {i : Nat} {b : UInt8} (h : l.drop i = b :: r) : byteAt l i = b.toNat := by
  unfold byteAt
  have h1 : l[i]? = some b := by
    have := congrArg (·[0]?) h
    simpa using this
  rw [List.getD_eq_getElem?_getD, h1]; rfl
theorem drop_cons {l : List UInt8} {i : Nat} (h : i < l.length) : ∃ b, l.drop i = b :: l.drop (i + 1) := ⟨l[i], List.drop_eq_getElem_cons h⟩
theorem cntZ_psr (least most : Nat) (e : Int) (he : e ≠ 0) (hm : most < 18446744073709551616) : Psr (cntZ least most e) vintL (fun n => least ≤ n ∧ n ≤ most) where
  stay l z hz := by unfold cntZ; rw [if_pos hz]
  bound l z hz hl := by
    unfold cntZ
    rw [if_neg (fun h => h hz)]
    split
    · exact ⟨Nat.le_refl _, hl⟩
    · rename_i h1
      split
      · exact ⟨Nat.le_refl _, hl⟩
      · unfold vgetL at h1 ⊢
        split at h1
        · exact absurd (by decide) h1
        · rename_i h2
          split at h1
          · exact absurd (by decide) h1
          · rename_i h3
            rw [if_neg h2, if_neg h3]
            split
            · dsimp only; omega
            · rename_i h4
              rw [if_neg h4] at h1
              exact absurd (by decide) h1
  back l z x r hx hz hl hd := by
    obtain ⟨b, p, h1, h2, h3, -⟩ := vintL_first x
    have h3 := h3 (by omega)
    rw [h1] at hd ⊢
    have h4 := drop_le hl hd
    have hb : byteAt l z.at_ = b.toNat := byteAt_drop hd
    have hp : pt l (z.at_ + 1) (kOf b.toNat) = p := pt_drop (drop_len (a := [b]) hd) h2
    have hv : vnum l z.at_ = x := by unfold vnum; rw [hb, hp]; exact h3
    rw [List.length_cons] at h4 ⊢
    have hg : vgetL l z.at_ = (x, z.at_ + (p.length + 1), 0) := by
      unfold vgetL
      rw [if_neg (by omega), hb, if_neg (by omega), hv, if_pos (by rw [h1, List.length_cons]; omega), ← h2, Nat.add_right_comm, Nat.add_assoc]
    unfold cntZ
    rw [if_neg (fun h => h hz), hg, if_neg (by simp), if_neg (by dsimp only; omega)]
  again l z hz hl h0 := by
    unfold cntZ at h0 ⊢
    rw [if_neg (fun h => h hz)] at h0 ⊢
    split at h0
    · rename_i h1; exact absurd h0 h1
    · rename_i h1
      rw [if_neg h1]
      split at h0
      · exact absurd h0 he
      · rename_i h2
        rw [if_neg h2]
        dsimp only
        refine ⟨by omega, ?_⟩
        unfold vgetL at h1 ⊢
        split at h1
        · exact absurd (by decide) h1
        · rename_i h3
          split at h1
          · exact absurd (by decide) h1
          · rename_i h4
            split at h1
            · rename_i h5
              rw [if_neg h3, if_neg h4, if_pos h5]
              dsimp only
              obtain ⟨b, hb⟩ := drop_cons (show z.at_ < l.length by omega)
              have hb2 := byteAt_drop hb
              rw [hb2] at h4 h5
              have hsp := pt_split l (z.at_ + 1) (kOf b.toNat)
              have hv : vnum l z.at_ = if kOf b.toNat = 0 then b.toNat else leN (pt l (z.at_ + 1) (kOf b.toNat)) := by unfold vnum; rw [hb2]
              rw [hv] at h5 ⊢
              rw [(vint_first b _ (pt_len (by omega))).1 h5]
              exact ⟨_, by rw [hb, hsp]; rfl⟩
            · exact absurd (by decide) h1
  short l z x p r hx hz hl hd hq hr := by
    obtain ⟨b, q, h1, h2, -, -⟩ := vintL_first x
    rw [h1] at hq
    have hln := congrArg List.length hd
    rw [List.length_drop] at hln
    have hg : (vgetL l z.at_).2.2 = 5 := by
      cases p with
      | nil =>
        unfold vgetL
        rw [if_pos (by simp at hln; omega)]
      | cons b' p' =>
        rw [List.cons_append] at hq
        obtain ⟨rfl, hq2⟩ := List.cons.inj hq
        have hq3 := congrArg List.length hq2
        rw [List.length_append] at hq3
        have hr2 := List.length_pos_iff.2 hr
        rw [List.length_cons] at hln
        unfold vgetL
        rw [if_neg (by omega), byteAt_drop hd, if_pos (by omega)]
    unfold cntZ
    rw [if_neg (fun h => h hz), hg, if_pos (by decide)]
end Go.Proofs.YtaooibocknemkaaGreat
end

section
namespace Go.Proofs.YtaooibocknemkaaGreat
set_option linter.unusedVariables false
set_option linter.unusedSimpArgs false

def inZ : Prs PIn := mapZ (fun a => ⟨a.1, a.2.1, a.2.2.2, []⟩) (seqZ (textZ 32) fun _ => seqZ (numZ 4 4294967295 3) fun _ => seqZ (cntZ 0 0 4) fun _ => numZ 4 4294967295 3)
def okIn (x : PIn) : Prop := x.id.size = 32 ∧ x.idx < 4294967296 ∧ x.seq < 4294967296 ∧ x.wit = []
theorem inZ_psr : Psr inZ inB okIn := by
  refine ((textZ_psr 32).seq fun _ => (numZ_psr 4 4294967295 3 (by decide)).seq fun _ => (cntZ_psr 0 0 4 (by decide) (by decide)).seq fun _ => numZ_psr 4 4294967295 3 (by decide)).map _
    (fun x => (x.id, x.idx, 0, x.seq)) ?_ ?_
  · rintro ⟨s, i, n, q⟩ ⟨h1, h2, h3, h4⟩
    dsimp only at h1 h2 h3 h4 ⊢
    obtain rfl : n = 0 := by omega
    exact ⟨⟨h1, by show i < _; omega, by show q < _; omega, rfl⟩, by simp [inB, List.append_assoc]⟩
  · rintro ⟨s, i, q, wt⟩ ⟨h1, h2, h3, h4⟩
    dsimp only at h1 h2 h3 h4 ⊢
    subst h4
    exact ⟨⟨h1, ⟨by omega, by omega⟩, by omega, by omega, by omega⟩, rfl⟩
def cntRep {α : Type} (least most : Nat) (e : Int) (F : Prs α) : Prs (List α) := mapZ Prod.snd (seqZ (cntZ least most e) fun n => repZ F n)
theorem cntRep_psr {α : Type} {F : Prs α} {q : α → List UInt8} {ok : α → Prop} (hF : Psr F q ok) (least most : Nat) (e : Int) (he : e ≠ 0) (hm : most < 18446744073709551616) :
    Psr (cntRep least most e F) (fun xs => vintL xs.length ++ xs.flatMap q) (fun xs => (least ≤ xs.length ∧ xs.length ≤ most) ∧ ∀ x ∈ xs, ok x) := by
  refine ((cntZ_psr least most e he hm).seq fun n => hF.rep n).map _ (fun xs => (xs.length, xs)) ?_ ?_
  · rintro ⟨n, xs⟩ ⟨h1, h3, h2⟩
    dsimp only at h1 h2 h3 ⊢
    subst h3
    exact ⟨⟨h1, h2⟩, rfl⟩
  · rintro xs ⟨h1, h2⟩
    exact ⟨⟨h1, rfl, h2⟩, rfl⟩
def insZ : Prs (List PIn) := cntRep 1 256 6 inZ
def cntText (most : Nat) (e : Int) : Prs ByteArray := mapZ Prod.snd (seqZ (cntZ 0 most e) fun k => textZ k)
theorem cntText_psr (most : Nat) (e : Int) (he : e ≠ 0) (hm : most < 18446744073709551616) : Psr (cntText most e) sizedL (fun s => s.size ≤ most) := by
  refine ((cntZ_psr 0 most e he hm).seq fun k => textZ_psr k).map _ (fun s => (s.size, s)) ?_ ?_
  · rintro ⟨k, s⟩ ⟨h1, h2⟩
    dsimp only at h1 h2 ⊢
    subst h2
    exact ⟨h1.2, rfl⟩
  · intro s h
    exact ⟨⟨⟨Nat.zero_le _, h⟩, rfl⟩, rfl⟩
def outZ : Prs POut := mapZ (fun a => ⟨(a.1 : Int), a.2⟩) (seqZ (numZ 8 2100000000000000 3) fun _ => cntText 40 20)
def okOut (x : POut) : Prop := (0 ≤ x.val ∧ x.val ≤ 2100000000000000) ∧ x.script.size ≤ 40
theorem outZ_psr : Psr outZ outB okOut := by
  refine ((numZ_psr 8 2100000000000000 3 (by decide)).seq fun _ => cntText_psr 40 20 (by decide) (by decide)).map _ (fun x => (x.val.toNat, x.script)) ?_ ?_
  · rintro ⟨n, s⟩ ⟨h1, h2⟩
    dsimp only at h1 h2 ⊢
    exact ⟨⟨⟨by show (0 : Int) ≤ (n : Int); omega, by show (n : Int) ≤ _; omega⟩, h2⟩, rfl⟩
  · rintro ⟨v, s⟩ ⟨⟨h1, h2⟩, h3⟩
    dsimp only at h1 h2 h3 ⊢
    exact ⟨⟨⟨by omega, by omega⟩, h3⟩, by rw [Int.toNat_of_nonneg h1]⟩
def outsZ : Prs (List POut) := cntRep 1 256 6 outZ
def itemZ : Prs ByteArray := cntText 80 20
def witZ : Prs (List ByteArray) := cntRep 0 4 6 itemZ
def wtL (l : List ByteArray) : List UInt8 := vintL l.length ++ l.flatMap sizedL
def okWit (l : List ByteArray) : Prop := (0 ≤ l.length ∧ l.length ≤ 4) ∧ ∀ s ∈ l, s.size ≤ 80
theorem witZ_psr : Psr witZ wtL okWit := cntRep_psr (cntText_psr 80 20 (by decide) (by decide)) 0 4 6 (by decide) (by decide)
def anyW (l : List (List ByteArray)) : Bool := l.any fun s => decide (0 < s.length)
/-- All witnesses; one of them must have a text. -/
def witsZ (n : Nat) : Prs (List (List ByteArray)) := fun l z => (if (repZ witZ n l z).1.err = 0 ∧ anyW (repZ witZ n l z).2 = false then ⟨z.at_, 4⟩ else (repZ witZ n l z).1, (repZ witZ n l z).2)
theorem witsZ_psr (n : Nat) : Psr (witsZ n) (fun xs => xs.flatMap wtL) (fun xs => (xs.length = n ∧ ∀ x ∈ xs, okWit x) ∧ anyW xs = true) where
  stay l z hz := by
    have h := (witZ_psr.rep n).stay l z hz
    unfold witsZ
    dsimp only
    rw [if_neg (fun hh => hz (h ▸ hh.1)), h]
  bound l z hz hl := by
    have h := (witZ_psr.rep n).bound l z hz hl
    unfold witsZ
    dsimp only
    split
    · exact ⟨Nat.le_refl _, hl⟩
    · exact h
  back l z x r hx hz hl hd := by
    have h := (witZ_psr.rep n).back l z x r hx.1 hz hl hd
    unfold witsZ
    rw [h]
    dsimp only
    rw [if_neg (by rw [hx.2]; simp)]
  again l z hz hl h0 := by
    unfold witsZ at h0 ⊢
    dsimp only at h0 ⊢
    split at h0
    · exact absurd h0 four_ne
    · rename_i h1
      have h := (witZ_psr.rep n).again l z hz hl h0
      refine ⟨⟨h.1, ?_⟩, h.2⟩
      rw [not_and] at h1
      simpa using h1 h0
  short l z x p r hx hz hl hd hq hr := by
    have h := (witZ_psr.rep n).short l z x p r hx.1 hz hl hd hq hr
    unfold witsZ
    dsimp only
    rw [if_neg (fun hh => five_ne (h ▸ hh.1)), h]
def nilZ {α : Type} : Prs (List α) := fun _ z => (z, [])
theorem nilZ_psr {α : Type} : Psr (nilZ (α := α)) (fun _ => []) (fun xs => xs = []) where
  stay l z hz := rfl
  bound l z hz hl := ⟨Nat.le_refl _, hl⟩
  back l z x r hx hz hl hd := by
    obtain ⟨a, e⟩ := z
    obtain rfl : e = 0 := hz
    rw [hx]; rfl
  again l z hz hl h0 := ⟨rfl, _, rfl⟩
  short l z x p r hx hz hl hd hq hr := absurd (List.append_eq_nil_iff.1 hq.symm).2 hr
/-- Is a marker there, and the right flag? -/
def markZ : Prs Bool := fun l z =>
  if z.err ≠ 0 ∨ l.length ≤ z.at_ ∨ byteAt l z.at_ ≠ 0 then (z, false) else
  if z.at_ + 1 < l.length ∧ byteAt l (z.at_ + 1) ≠ 1 then (⟨z.at_ + 1, 4⟩, true) else ((numZ 1 1 4 l ⟨z.at_ + 1, 0⟩).1, true)
def miZ : Prs (Bool × List PIn) := seqZ markZ fun _ => insZ
def okIns (xs : List PIn) : Prop := (1 ≤ xs.length ∧ xs.length ≤ 256) ∧ ∀ x ∈ xs, okIn x
def insL (xs : List PIn) : List UInt8 := vintL xs.length ++ xs.flatMap inB
theorem insZ_psr : Psr insZ insL okIns := cntRep_psr inZ_psr 1 256 6 (by decide) (by decide)
def okOuts (xs : List POut) : Prop := (1 ≤ xs.length ∧ xs.length ≤ 256) ∧ ∀ x ∈ xs, okOut x
def outsL (xs : List POut) : List UInt8 := vintL xs.length ++ xs.flatMap outB
theorem outsZ_psr : Psr outsZ outsL okOuts := cntRep_psr outZ_psr 1 256 6 (by decide) (by decide)
theorem insL_first {xs : List PIn} (h : okIns xs) : ∃ b p, insL xs = b :: p ∧ b.toNat ≠ 0 := by
  obtain ⟨b, p, h1, -, -, h4⟩ := vintL_first xs.length
  refine ⟨b, p ++ xs.flatMap inB, by unfold insL; rw [h1]; rfl, fun h0 => ?_⟩
  have := h4 (UInt8.toNat_inj.1 h0)
  have := h.1.1
  omega
theorem mark_stay (l : List UInt8) (z : Zst) (hz : z.err ≠ 0) : markZ l z = (z, false) := by unfold markZ; rw [if_pos (.inl hz)]
theorem mark_none (l : List UInt8) (z : Zst) (h : l.length ≤ z.at_) : markZ l z = (z, false) := by unfold markZ; rw [if_pos (.inr (.inl h))]
theorem mark_no (l : List UInt8) (z : Zst) (h : byteAt l z.at_ ≠ 0) : markZ l z = (z, false) := by unfold markZ; rw [if_pos (.inr (.inr h))]
theorem mark_yes {l r : List UInt8} {z : Zst} (hz : z.err = 0) (hl : z.at_ ≤ l.length) (hd : l.drop z.at_ = [0, 1] ++ r) : markZ l z = (⟨z.at_ + 2, 0⟩, true) := by
  have h1 := drop_le hl hd
  have h2 : byteAt l z.at_ = 0 := byteAt_drop (r := 1 :: r) hd
  have hd2 : l.drop (z.at_ + 1) = 1 :: r := drop_len (a := [0]) (r := 1 :: r) hd
  have h3 : byteAt l (z.at_ + 1) = 1 := byteAt_drop hd2
  rw [List.length_cons, List.length_cons, List.length_nil] at h1
  have h4 := (numZ_psr 1 1 4 (by decide)).back l ⟨z.at_ + 1, 0⟩ 1 r ⟨by decide, by decide⟩ rfl (by dsimp only; omega) hd2
  unfold markZ
  rw [if_neg (by rw [hz, h2]; simp; omega), if_neg (by rw [h3]; simp), h4]
  rfl
theorem mark_again {l : List UInt8} {z : Zst} (hz : z.err = 0) (h0 : (markZ l z).1.err = 0) : ((markZ l z) = (z, false)) ∨ (markZ l z = (⟨z.at_ + 2, 0⟩, true) ∧ ∃ r, l.drop z.at_ = [0, 1] ++ r) := by
  unfold markZ at h0 ⊢
  split at h0
  · rename_i h; rw [if_pos h]; exact .inl rfl
  · rename_i h
    rw [if_neg h]
    split at h0
    · exact absurd h0 four_ne
    · rename_i h1
      rw [if_neg h1]
      refine .inr ?_
      have ha : z.at_ < l.length := by
        rcases Nat.lt_or_ge z.at_ l.length with h2 | h2
        · exact h2
        · exact absurd (.inr (.inl h2)) h
      have hb0 : byteAt l z.at_ = 0 := Decidable.by_contra fun h3 => h (.inr (.inr h3))
      obtain ⟨-, h4, r, h5⟩ := (numZ_psr 1 1 4 (by decide)).next (l := l) (z := ⟨z.at_ + 1, 0⟩) rfl (by dsimp only; omega) h0
      have hlen := congrArg List.length h5
      rw [List.length_drop, List.length_append, leB_length] at hlen
      obtain ⟨b, hb⟩ := drop_cons ha
      obtain ⟨c, hc⟩ := drop_cons (show z.at_ + 1 < l.length by dsimp only at hlen; omega)
      have hb2 := byteAt_drop hb
      have hc2 := byteAt_drop hc
      have h7 : byteAt l (z.at_ + 1) = 1 := Decidable.by_contra fun h3 => h1 ⟨by dsimp only at hlen; omega, h3⟩
      have hbz : b = 0 := UInt8.toNat_inj.1 (hb2.symm.trans hb0)
      have hcz : c = 1 := UInt8.toNat_inj.1 (hc2.symm.trans h7)
      subst hbz hcz
      refine ⟨by rw [h4, leB_length], l.drop (z.at_ + 1 + 1), by rw [hb, hc]; rfl⟩
theorem mark_bound (l : List UInt8) (z : Zst) (hz : z.err = 0) (hl : z.at_ ≤ l.length) : z.at_ ≤ (markZ l z).1.at_ ∧ (markZ l z).1.at_ ≤ l.length := by
  unfold markZ
  split
  · exact ⟨Nat.le_refl _, hl⟩
  · rename_i h
    have ha : z.at_ < l.length := by
      rcases Nat.lt_or_ge z.at_ l.length with h2 | h2
      · exact h2
      · exact absurd (.inr (.inl h2)) h
    split
    · exact ⟨Nat.le_succ _, ha⟩
    · have := (numZ_psr 1 1 4 (by decide)).bound l ⟨z.at_ + 1, 0⟩ rfl ha
      exact ⟨Nat.le_trans (Nat.le_succ _) this.1, this.2⟩
theorem miZ_psr : Psr miZ (fun a => markL a.1 ++ insL a.2) (fun a => okIns a.2) where
  stay l z hz := by
    show (insZ l (markZ l z).1).1 = z
    rw [mark_stay l z hz]
    exact insZ_psr.stay l z hz
  bound l z hz hl := by
    show _ ≤ (insZ l (markZ l z).1).1.at_ ∧ (insZ l (markZ l z).1).1.at_ ≤ _
    have h1 := mark_bound l z hz hl
    by_cases he : (markZ l z).1.err = 0
    · have h2 := insZ_psr.bound l _ he h1.2
      exact ⟨Nat.le_trans h1.1 h2.1, h2.2⟩
    · rw [insZ_psr.stay l _ he]; exact h1
  back l z a r hx hz hl hd := by
    obtain ⟨b, xs⟩ := a
    cases b
    · have hd' : l.drop z.at_ = insL xs ++ r := hd
      obtain ⟨c, p, h1, h2⟩ := insL_first hx
      have h3 : byteAt l z.at_ = c.toNat := byteAt_drop (r := p ++ r) (by rw [hd', h1]; rfl)
      have h4 := insZ_psr.back l z xs r hx hz hl hd'
      unfold miZ seqZ
      rw [mark_no l z (by rw [h3]; exact h2)]
      dsimp only
      rw [h4]
      rfl
    · have hd' : l.drop z.at_ = [0, 1] ++ (insL xs ++ r) := hd
      have h4 := insZ_psr.back l ⟨z.at_ + 2, 0⟩ xs r hx rfl (drop_le hl hd') (drop_len hd')
      unfold miZ seqZ
      rw [mark_yes hz hl hd']
      dsimp only
      rw [h4]
      have h5 : (markL true ++ insL xs).length = 2 + (insL xs).length := by rw [List.length_append]; rfl
      rw [h5, Nat.add_assoc]
  again l z hz hl h0 := by
    have h0' : (insZ l (markZ l z).1).1.err = 0 := h0
    by_cases he : (markZ l z).1.err = 0
    · have hb := mark_bound l z hz hl
      rcases mark_again hz he with h1 | ⟨h1, r, h2⟩
      · rw [h1] at h0'
        obtain ⟨h3, r, h4⟩ := insZ_psr.again l z hz hl h0'
        unfold miZ seqZ
        rw [h1]
        exact ⟨h3, r, h4⟩
      · rw [h1] at h0'
        obtain ⟨h3, r', h4⟩ := insZ_psr.again l ⟨z.at_ + 2, 0⟩ rfl (drop_le hl h2) h0'
        unfold miZ seqZ
        rw [h1]
        refine ⟨h3, r', ?_⟩
        have h5 : l.drop (z.at_ + 2) = r := drop_len h2
        have h6 : r = insL (insZ l ⟨z.at_ + 2, 0⟩).2 ++ r' := h5.symm.trans h4
        dsimp only
        rw [h2]
        show _ = [0, 1] ++ insL (insZ l ⟨z.at_ + 2, 0⟩).2 ++ r'
        rw [List.append_assoc, ← h6]
    · rw [insZ_psr.stay l _ he] at h0'
      exact absurd h0' he
  short l z a p r hx hz hl hd hq hr := by
    obtain ⟨b, xs⟩ := a
    show (insZ l (markZ l z).1).1.err = 5
    have hnil : p = [] → (insZ l z).1.err = 5 := fun hp => insZ_psr.short l z xs [] (insL xs) hx hz hl (by rw [hd, hp]) rfl (by obtain ⟨c, q, h1, -⟩ := insL_first hx; rw [h1]; simp)
    have hlen := congrArg List.length hd
    rw [List.length_drop] at hlen
    cases p with
    | nil =>
      rw [mark_none l z (by simp at hlen; omega)]
      exact hnil rfl
    | cons c p =>
      cases b
      · have hq' : insL xs = c :: p ++ r := hq
        obtain ⟨c', p', h1, h2⟩ := insL_first hx
        rw [h1, List.cons_append] at hq'
        have h3 : byteAt l z.at_ = c.toNat := byteAt_drop hd
        rw [mark_no l z (by rw [h3, ← (List.cons.inj hq').1]; exact h2)]
        exact insZ_psr.short l z xs (c :: p) r hx hz hl hd hq hr
      · have hq' : (0 : UInt8) :: 1 :: insL xs = c :: p ++ r := hq
        rw [List.cons_append] at hq'
        obtain ⟨rfl, hq2⟩ := List.cons.inj hq'
        cases p with
        | nil =>
          have h3 : byteAt l z.at_ = 0 := byteAt_drop hd
          rw [List.length_cons, List.length_nil] at hlen
          have h4 : (numZ 1 1 4 l ⟨z.at_ + 1, 0⟩).1.err = 5 := by
            unfold numZ
            rw [if_neg (by simp), if_pos (by dsimp only; omega)]
          have h5 : (markZ l z).1.err = 5 := by
            unfold markZ
            rw [if_neg (by rw [hz, h3]; simp; omega), if_neg (by omega)]
            exact h4
          rw [insZ_psr.stay l _ (by rw [h5]; decide)]
          exact h5
        | cons d p =>
          rw [List.cons_append] at hq2
          obtain ⟨rfl, hq3⟩ := List.cons.inj hq2
          have hd' : l.drop z.at_ = [0, 1] ++ p := hd
          rw [mark_yes hz hl hd']
          exact insZ_psr.short l ⟨z.at_ + 2, 0⟩ xs p r hx rfl (drop_le hl hd') (drop_len hd') hq3 hr
abbrev Raw := Nat × (Bool × List PIn) × List POut × List (List ByteArray) × Nat
def wsZ (m : Bool × List PIn) : Prs (List (List ByteArray)) := if m.1 then witsZ m.2.length else nilZ
def okWs (m : Bool × List PIn) (xs : List (List ByteArray)) : Prop := if m.1 then (xs.length = m.2.length ∧ ∀ x ∈ xs, okWit x) ∧ anyW xs = true else xs = []
def wsL (m : Bool × List PIn) (xs : List (List ByteArray)) : List UInt8 := if m.1 then xs.flatMap wtL else []
theorem wsZ_psr (m : Bool × List PIn) : Psr (wsZ m) (wsL m) (okWs m) := by
  obtain ⟨b, xs⟩ := m
  cases b
  · exact nilZ_psr
  · exact witsZ_psr xs.length
def allZ : Prs Raw := seqZ (numZ 4 4294967295 3) fun _ => seqZ miZ fun m => seqZ outsZ fun _ => seqZ (wsZ m) fun _ => numZ 4 4294967295 3
def setW (xs : List PIn) (ws : List (List ByteArray)) : List PIn := List.zipWith (fun x v => { x with wit := v }) xs ws
def txOf (a : Raw) : PTx := ⟨a.1, if a.2.1.1 then setW a.2.1.2 a.2.2.2.1 else a.2.1.2, a.2.2.1, a.2.2.2.2⟩
def bareIn (x : PIn) : PIn := { x with wit := [] }
def bareTx (t : PTx) : PTx := { t with ins := t.ins.map bareIn }
def rawOf (t : PTx) (b : Bool) : Raw := (t.ver, (b, t.ins.map bareIn), t.outs, (if b then t.ins.map (·.wit) else []), t.lock)
/-- What is decoded: the transaction, the place, the error. -/
def noTx : PTx := ⟨0, [], [], 0⟩
def endZ (l : List UInt8) (z : Zst) : Zst := if z.at_ < l.length ∧ z.err = 0 then ⟨z.at_, 4⟩ else z
noncomputable def decZ (l : List UInt8) : PTx × Nat × Int :=
  if (endZ l (allZ l ⟨0, 0⟩).1).err = 0 then (if checkOf (txOf (allZ l ⟨0, 0⟩).2) = 0 then (txOf (allZ l ⟨0, 0⟩).2, l.length, 0) else (noTx, (endZ l (allZ l ⟨0, 0⟩).1).at_, checkOf (txOf (allZ l ⟨0, 0⟩).2)))
  else (noTx, (endZ l (allZ l ⟨0, 0⟩).1).at_, (endZ l (allZ l ⟨0, 0⟩).1).err)
/-- What can be written and read. -/
structure OkP (t : PTx) : Prop where
  ver : t.ver < 4294967296
  lock : t.lock < 4294967296
  ins : 1 ≤ t.ins.length ∧ t.ins.length ≤ 256
  outs : 1 ≤ t.outs.length ∧ t.outs.length ≤ 256
  inp : ∀ x ∈ t.ins, (x.id.size = 32 ∧ x.idx < 4294967296 ∧ x.seq < 4294967296) ∧ okWit x.wit
  outp : ∀ x ∈ t.outs, okOut x
theorem anyW_of (t : PTx) : anyW (t.ins.map (·.wit)) = witOf t := by unfold anyW witOf; rw [List.any_map]; rfl
def okRaw (a : Raw) : Prop := (a.1 ≤ 4294967295 ∧ a.1 < 256 ^ 4) ∧ okIns a.2.1.2 ∧ okOuts a.2.2.1 ∧ okWs a.2.1 a.2.2.2.1 ∧ (a.2.2.2.2 ≤ 4294967295 ∧ a.2.2.2.2 < 256 ^ 4)
def rawL (a : Raw) : List UInt8 := leB a.1 4 ++ ((markL a.2.1.1 ++ insL a.2.1.2) ++ (outsL a.2.2.1 ++ (wsL a.2.1 a.2.2.2.1 ++ leB a.2.2.2.2 4)))
theorem allZ_psr' : Psr allZ rawL okRaw := by
  have h := (numZ_psr 4 4294967295 3 (by decide)).seq fun _ => miZ_psr.seq fun m => outsZ_psr.seq fun _ => (wsZ_psr m).seq fun _ => numZ_psr 4 4294967295 3 (by decide)
  exact h
theorem flat_bare (xs : List PIn) : (xs.map bareIn).flatMap inB = xs.flatMap inB := by rw [List.flatMap_map]; rfl
theorem raw_enc (t : PTx) (b : Bool) : rawL (rawOf t b) = encL t b := by
  unfold rawL rawOf encL insL outsL wsL witsL
  dsimp only
  rw [flat_bare, List.length_map]
  cases b
  · simp [List.append_assoc]
  · simp only [if_true, List.flatMap_map, List.append_assoc]
    rfl
theorem raw_ok {t : PTx} (h : OkP t) {b : Bool} (hb : b = true → witOf t = true) : okRaw (rawOf t b) := by
  have hv := h.ver
  have hk := h.lock
  refine ⟨⟨by show t.ver ≤ _; omega, by show t.ver < _; omega⟩, ⟨by show 1 ≤ (t.ins.map bareIn).length ∧ _; show _ ∧ (t.ins.map bareIn).length ≤ 256; rw [List.length_map]; exact h.ins, fun x hx => ?_⟩, ⟨h.outs, h.outp⟩, ?_, ⟨by show t.lock ≤ _; omega, by show t.lock < _; omega⟩⟩
  · obtain ⟨y, hy, rfl⟩ := List.mem_map.1 hx
    obtain ⟨⟨h1, h2, h3⟩, -⟩ := h.inp y hy
    exact ⟨h1, h2, h3, rfl⟩
  · show okWs (b, t.ins.map bareIn) _
    cases b
    · rfl
    · refine ⟨⟨by show (t.ins.map (·.wit)).length = (t.ins.map bareIn).length; rw [List.length_map, List.length_map], fun x hx => ?_⟩, (anyW_of t).trans (hb rfl)⟩
      obtain ⟨y, hy, rfl⟩ := List.mem_map.1 hx
      exact (h.inp y hy).2
theorem setW_map (xs : List PIn) : setW (xs.map bareIn) (xs.map (·.wit)) = xs := by
  induction xs with
  | nil => rfl
  | cons x r ih =>
    simp only [setW, List.map_cons, List.zipWith_cons_cons] at ih ⊢
    rw [ih]; rfl
theorem raw_tx (t : PTx) : txOf (rawOf t true) = t := by
  unfold txOf rawOf
  simp only [if_true]
  rw [setW_map]
theorem raw_bare (t : PTx) : txOf (rawOf t false) = bareTx t := rfl
theorem bare_self {t : PTx} (h : witOf t = false) : bareTx t = t := by
  unfold bareTx
  have : t.ins.map bareIn = t.ins := by
    conv => rhs; rw [← List.map_id t.ins]
    refine List.map_congr_left fun x hx => ?_
    have h1 := List.any_eq_false.1 h x hx
    have h2 : x.wit = [] := by simpa using h1
    show bareIn x = x
    unfold bareIn
    rw [← h2]
  rw [this]
theorem raw_wit (t : PTx) : txOf (rawOf t (witOf t)) = t := by
  cases h : witOf t
  · rw [raw_bare, bare_self h]
  · exact raw_tx t
theorem dec_of {l : List UInt8} {a : Raw} (h : allZ l ⟨0, 0⟩ = (⟨l.length, 0⟩, a)) (hc : checkOf (txOf a) = 0) : decZ l = (txOf a, l.length, 0) := by
  unfold decZ endZ
  rw [h]
  dsimp only
  have h1 : ¬ (l.length < l.length ∧ (0 : Int) = 0) := fun h => Nat.lt_irrefl _ h.1
  rw [if_neg h1]
  dsimp only
  rw [if_pos rfl, if_pos hc]
theorem all_back {t : PTx} (h : OkP t) {b : Bool} (hb : b = true → witOf t = true) (r : List UInt8) : allZ (encL t b ++ r) ⟨0, 0⟩ = (⟨(encL t b).length, 0⟩, rawOf t b) := by
  have h1 := allZ_psr'.back (encL t b ++ r) ⟨0, 0⟩ (rawOf t b) r (raw_ok h hb) rfl (Nat.zero_le _) (by rw [raw_enc]; rfl)
  rw [raw_enc, Nat.zero_add] at h1
  exact h1
theorem dec_back {t : PTx} (h : OkP t) (hc : checkOf t = 0) : decZ (encL t (witOf t)) = (t, (encL t (witOf t)).length, 0) := by
  have h1 := all_back h (b := witOf t) (fun h => h) []
  rw [List.append_nil] at h1
  have h2 := dec_of h1 (by rw [raw_wit]; exact hc)
  rw [raw_wit] at h2
  exact h2
end Go.Proofs.YtaooibocknemkaaGreat
end

section
namespace Go.Proofs.YtaooibocknemkaaGreat
open Go.RowKit Go.BigFrame
set_option linter.unusedVariables false
set_option linter.unusedSimpArgs false

end Go.Proofs.YtaooibocknemkaaGreat
end
