/-
  Plain laws of layer 17: capitals, and texts and their UCS-2. No program in it.
-/
import Derived.Test.YtdcknfdileomoaaDoorCh
import Derived.Test.YtdcknfdileomoaaDoorDn
namespace Go.Proofs.YtdcknfdileomoaaDoor
namespace Cs

theorem up_toNat (b : UInt8) : (up b).toNat = if 97 ≤ b.toNat ∧ b.toNat ≤ 122 then b.toNat - 32 else b.toNat := by
  have := UInt8.toNat_lt b
  unfold up
  split
  · rw [UInt8.toNat_ofNat']; omega
  · rfl
theorem up_up (b : UInt8) : up (up b) = up b := by
  apply UInt8.toNat_inj.1
  have := UInt8.toNat_lt b
  have h := up_toNat b
  rw [up_toNat (up b), h]
  by_cases hb : 97 ≤ b.toNat ∧ b.toNat ≤ 122
  · rw [if_pos hb, if_neg (by omega)]
  · rw [if_neg hb, if_neg hb]
theorem byt_up (l : List UInt8) (i : Nat) : byt (l.map up) i = if 97 ≤ byt l i ∧ byt l i ≤ 122 then byt l i - 32 else byt l i := by
  unfold byt
  rw [← up_toNat]
  simp only [List.getD, List.getElem?_map]
  cases l[i]? with
  | none => rfl
  | some b => rfl

theorem fits_up1 (l : List UInt8) : fits (l.map up) 1 = fits l 1 := by
  rw [Bool.eq_iff_iff, fits_one, fits_one, byt_up, List.length_map]
  split <;> omega
theorem fits_up2 (l : List UInt8) : fits (l.map up) 2 = fits l 2 := by
  rw [Bool.eq_iff_iff, fits_two, fits_two, byt_up, byt_up, List.length_map]
  split <;> split <;> omega
theorem fits_up3 (l : List UInt8) : fits (l.map up) 3 = fits l 3 := by
  rw [Bool.eq_iff_iff, fits_three, fits_three, List.length_map]
  by_cases h : 224 ≤ byt l 0 ∧ 128 ≤ byt l 1 ∧ 128 ≤ byt l 2
  · have e0 : byt (l.map up) 0 = byt l 0 := by rw [byt_up, if_neg (by omega)]
    have e1 : byt (l.map up) 1 = byt l 1 := by rw [byt_up, if_neg (by omega)]
    have e2 : byt (l.map up) 2 = byt l 2 := by rw [byt_up, if_neg (by omega)]
    have e3 : num (l.map up) 3 = num l 3 := by
      show ((byt (l.map up) 0 : Int) - 224) * 4096 + ((byt (l.map up) 1 : Int) - 128) * 64 + byt (l.map up) 2 - 128 = ((byt l 0 : Int) - 224) * 4096 + ((byt l 1 : Int) - 128) * 64 + byt l 2 - 128
      rw [e0, e1, e2]
    rw [e0, e1, e2, e3]
  · constructor
    · rintro ⟨_, a, _, b, _, c, _⟩
      exfalso
      rw [byt_up] at a b c
      apply h
      refine ⟨?_, ?_, ?_⟩
      · split at a <;> omega
      · split at b <;> omega
      · split at c <;> omega
    · rintro ⟨_, a, _, b, _, c, _⟩
      exact absurd ⟨a, b, c⟩ h

/-- The width of what stands first is the same in capitals. -/
theorem dec_up (l : List UInt8) (h : 0 < l.length) : (dec (l.map up)).map Prod.snd = (dec l).map Prod.snd := by
  rw [dec_fits l h, dec_fits (l.map up) (by rw [List.length_map]; exact h), fits_up1, fits_up2, fits_up3]
  split
  · rfl
  · split
    · rfl
    · split <;> rfl

theorem chars_up : ∀ (n : Nat) (l : List UInt8), l.length ≤ n → (chars (l.map up) = none ↔ chars l = none) := by
  intro n
  induction n with
  | zero =>
    intro l h
    have : l = [] := List.eq_nil_of_length_eq_zero (by omega)
    subst this
    simp
  | succ n ih =>
    intro l h
    by_cases h0 : 0 < l.length
    · have hu := dec_up l h0
      have h0' : 0 < (l.map up).length := by rw [List.length_map]; exact h0
      cases hd : dec l with
      | none =>
        rw [hd] at hu
        have hd' : dec (l.map up) = none := by
          cases hx : dec (l.map up) with
          | none => rfl
          | some p => rw [hx] at hu; cases hu
        rw [chars_none h0 hd, chars_none h0' hd']
      | some p =>
        obtain ⟨c, k⟩ := p
        rw [hd] at hu
        obtain ⟨c', hd'⟩ : ∃ c', dec (l.map up) = some (c', k) := by
          cases hx : dec (l.map up) with
          | none => rw [hx] at hu; cases hu
          | some p =>
            obtain ⟨c', k'⟩ := p
            rw [hx] at hu
            simp at hu
            exact ⟨c', by rw [hu]⟩
        have hw := dec_width h0 hd
        rw [chars_step h0 hd, chars_step h0' hd', ← List.map_drop]
        have hi := ih (l.drop k) (by rw [List.length_drop]; omega)
        cases hx : chars (l.drop k) with
        | none => rw [hi.2 hx]
        | some a =>
          cases hy : chars ((l.drop k).map up) with
          | none => rw [hi.1 hy] at hx; cases hx
          | some b => simp
    · have : l = [] := List.eq_nil_of_length_eq_zero (by omega)
      subst this
      simp

theorem charsR_two {l : List UInt8} (h : l.length ≤ 65536) : (charsR l).2 = 0 ↔ chars l ≠ none := by
  cases hc : chars l with
  | none => rw [charsR_none h hc]; simp
  | some cs => rw [charsR_some h hc]; simp

theorem charsR_up {l : List UInt8} (h : l.length ≤ 65536) : (charsR l).2 = 0 ↔ (charsR (upperR l)).2 = 0 := by
  have e : upperR l = l.map up := if_neg (by omega)
  rw [e, charsR_two h, charsR_two (by rw [List.length_map]; exact h)]
  exact (not_congr (chars_up l.length l (Nat.le_refl _))).symm
theorem upperR_len {l : List UInt8} (h : l.length ≤ 65536) : (upperR l).length = l.length := by
  have e : upperR l = l.map up := if_neg (by omega)
  rw [e, List.length_map]
theorem upperR_twice {l : List UInt8} (h : l.length ≤ 65536) : upperR (upperR l) = upperR l := by
  have e : upperR l = l.map up := if_neg (by omega)
  have e2 : upperR (l.map up) = (l.map up).map up := if_neg (by rw [List.length_map]; omega)
  rw [e, e2, List.map_map]
  congr 1
  funext b
  exact up_up b
theorem dch_ach {l : List UInt8} (h : dchR l = true) : achR l = true ∧ upperR l = l := by
  unfold dchR at h
  rw [Bool.and_eq_true, decide_eq_true_eq] at h
  obtain ⟨hl, ha⟩ := h
  refine ⟨?_, ?_⟩
  · unfold achR
    rw [Bool.and_eq_true, decide_eq_true_eq]
    refine ⟨hl, List.all_eq_true.2 fun b hb => ?_⟩
    unfold ach
    rw [List.all_eq_true.1 ha b hb]
    rfl
  · have e : upperR l = l.map up := if_neg (by omega)
    rw [e]
    have hm : ∀ b ∈ l, up b = b := by
      intro b hb
      have hd := List.all_eq_true.1 ha b hb
      unfold dch at hd
      simp at hd
      unfold up
      rw [if_neg (by omega)]
    calc l.map up = l.map id := List.map_congr_left hm
      _ = l := by simp

/-- What stands in the law on the way back. -/
theorem ucs2_of {l : List UInt8} {cs : List Nat} (hl : l.length ≤ 65536) (hc : chars l = some cs) : ucs2R l = (cs.flatMap (cu 2), 0) := by
  unfold ucs2R
  rw [charsR_some hl hc]
  rfl
theorem allChars_small {cs : List Nat} (h : allChars cs = true) : ∀ c ∈ cs, c ≤ 65535 := fun c hc => by
  have := isChar_le (List.all_eq_true.1 h c hc)
  omega
theorem from_ucs2 {cs : List Nat} (h : allChars cs = true) (hl : cs.length ≤ 32768) : fromR (cs.flatMap (cu 2)) = (text cs, 0) := by
  have hlen := flat_cu_len 2 (.inr rfl) cs
  unfold fromR
  rw [hlen, if_neg (by omega), if_neg (by omega), units_flat 2 (.inr rfl) cs (allChars_small h) (fun h2 => by cases h2), if_pos h]

theorem flat_units : ∀ (n : Nat) (u : List UInt8), u.length ≤ n → u.length % 2 = 0 → (units 2 u).flatMap (cu 2) = u := by
  intro n
  induction n using Nat.strongRecOn with
  | _ n ih =>
    intro u hn he
    match u, hn, he with
    | [], _, _ => rfl
    | [a], _, he => simp at he
    | a :: b :: t, hn, he =>
      have := ih t.length (by simp at hn; omega) t (Nat.le_refl _) (by simp at he; omega)
      have ha := UInt8.toNat_lt a
      have hb := UInt8.toNat_lt b
      rw [show units 2 (a :: b :: t) = (a.toNat * 256 + b.toNat) :: units 2 t by simp [units], List.flatMap_cons, this]
      have e : cu 2 (a.toNat * 256 + b.toNat) = [a, b] := by
        unfold cu
        rw [if_neg (by decide)]
        congr 1
        · apply UInt8.toNat_inj.1
          rw [UInt8.toNat_ofNat']; omega
        · congr 1
          apply UInt8.toNat_inj.1
          rw [UInt8.toNat_ofNat']; omega
      rw [e]
      rfl

theorem fromR_zero {u : List UInt8} (h : (fromR u).2 = 0) : u.length ≤ 65536 ∧ u.length % 2 = 0 ∧ allChars (units 2 u) = true ∧ fromR u = (text (units 2 u), 0) := by
  unfold fromR at h ⊢
  by_cases h1 : 65536 < u.length
  · rw [if_pos h1] at h; cases h
  rw [if_neg h1] at h ⊢
  by_cases h2 : u.length % 2 = 1
  · rw [if_pos h2] at h; cases h
  rw [if_neg h2] at h ⊢
  by_cases h3 : allChars (units 2 u) = true
  · rw [if_pos h3]
    exact ⟨by omega, by omega, h3, rfl⟩
  · rw [if_neg h3] at h; cases h
theorem units_len : ∀ (n : Nat) (u : List UInt8), u.length ≤ n → (units 2 u).length ≤ u.length := by
  intro n
  induction n using Nat.strongRecOn with
  | _ n ih =>
    intro u hn
    match u, hn with
    | [], _ => simp [units]
    | [a], _ => simp [units]
    | a :: b :: t, hn =>
      have := ih t.length (by simp at hn; omega) t (Nat.le_refl _)
      rw [show units 2 (a :: b :: t) = (a.toNat * 256 + b.toNat) :: units 2 t by simp [units]]
      simp
      omega
theorem ucs2_from {u : List UInt8} (h : (fromR u).2 = 0) (hl : u.length ≤ 300) : ucs2R (fromR u).1 = (u, 0) := by
  obtain ⟨_, he, ha, hf⟩ := fromR_zero h
  have hn := units_len u.length u (Nat.le_refl _)
  have ht := text_len (units 2 u)
  rw [hf]
  rw [ucs2_of (by show (text (units 2 u)).length ≤ 65536; omega) (chars_text _ ha), flat_units u.length u (Nat.le_refl _) he]
end Cs
end Go.Proofs.YtdcknfdileomoaaDoor
