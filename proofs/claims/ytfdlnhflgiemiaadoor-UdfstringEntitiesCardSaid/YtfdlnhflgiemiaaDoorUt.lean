/-
  Plain facts about layer 32: what is compressed and put into a field comes back; what Fit returns fits, and one character more would not.
-/
import Derived.Test.YtfdlnhflgiemiaaDoorUs
namespace Go.Proofs.YtfdlnhflgiemiaaDoor
namespace Cs

theorem sized_iff' (n : Int) : sized n = true ↔ 2 ≤ n ∧ n ≤ 255 := by simp [sized]

/-- A text's compressed Unicode is expanded to the text. -/
theorem expand_compress {l : List UInt8} (h : (compressR l).2 = 0) (hl : l.length ≤ 300) : expandR (compressR l).1 = (l, 0) := by
  by_cases h0 : (charsR l).2 = 0
  · obtain ⟨hl', hc⟩ := charsR_zero h0
    have hcl := (chars_len hc).1
    rw [compressR_ok hl' hc]
    show expandR (squeeze (charsR l).1) = (l, 0)
    rw [expand_squeeze _ (chars_all hc) (by omega), text_chars hc]
  · rw [compressR_err h0] at h
    exact absurd h h0

theorem compress_err3 {l : List UInt8} (h : (compressR l).2 ≠ 0) (hl : l.length ≤ 300) : compressR l = ([], 3) := by
  by_cases h0 : (charsR l).2 = 0
  · obtain ⟨hl', hc⟩ := charsR_zero h0
    rw [compressR_ok hl' hc] at h
    exact absurd rfl h
  · rw [compressR_err h0]
    obtain ⟨_, h7⟩ := charsR_err h0
    have : (charsR l).2 = 3 := by omega
    rw [this]

/-- The field of a size with a text. -/
theorem dstr_ok {l : List UInt8} {size : Int} (hs : sized size = true) (h : (compressR l).2 = 0) (hf : ¬ size - 1 < (compressR l).1.length) :
    dstrR l size = ((compressR l).1 ++ List.replicate (size.toNat - 1 - (compressR l).1.length) 0 ++ [UInt8.ofNat (compressR l).1.length], 0) := by
  unfold dstrR
  rw [if_neg (by rw [hs]; simp), if_neg (by simpa using h), if_neg hf]
theorem dstr_full {l : List UInt8} {size : Int} (hs : sized size = true) (h : (compressR l).2 = 0) (hf : size - 1 < (compressR l).1.length) : dstrR l size = ([], 12) := by
  unfold dstrR
  rw [if_neg (by rw [hs]; simp), if_neg (by simpa using h), if_pos hf]
theorem dstr_arg {l : List UInt8} {size : Int} (hs : sized size = false) : dstrR l size = ([], 1) := if_pos hs

/-- Parsing a field gives the text. -/
theorem parse_dstr {l : List UInt8} {size : Int} (hs : sized size = true) (h : (compressR l).2 = 0) (hl : l.length ≤ 300) (hf : ¬ size - 1 < (compressR l).1.length) :
    ((dstrR l size).1.length : Int) = size ∧ parseR (dstrR l size).1 = (l, 0) := by
  have he := expand_compress h hl
  rw [dstr_ok hs h hf]
  obtain ⟨h2, h255⟩ := (sized_iff' size).1 hs
  generalize (compressR l).1 = d at *
  have hlen : (d ++ List.replicate (size.toNat - 1 - d.length) 0 ++ [UInt8.ofNat d.length]).length = size.toNat := by
    simp only [List.length_append, List.length_replicate, List.length_singleton]
    omega
  have hlast : byt (d ++ List.replicate (size.toNat - 1 - d.length) 0 ++ [UInt8.ofNat d.length]) (size.toNat - 1) = d.length := by
    unfold byt
    have e : (d ++ List.replicate (size.toNat - 1 - d.length) (0 : UInt8)).length = size.toNat - 1 := by
      simp only [List.length_append, List.length_replicate]; omega
    simp only [List.getD]
    rw [List.getElem?_append_right (by omega), e, Nat.sub_self]
    simp only [List.getElem?_cons_zero, Option.getD_some]
    rw [UInt8.toNat_ofNat']
    omega
  refine ⟨by show ((d ++ List.replicate (size.toNat - 1 - d.length) 0 ++ [UInt8.ofNat d.length]).length : Int) = size; rw [hlen]; omega, ?_⟩
  show parseR (d ++ List.replicate (size.toNat - 1 - d.length) 0 ++ [UInt8.ofNat d.length]) = (l, 0)
  unfold parseR
  rw [hlen, if_neg (by rw [show ((size.toNat : Nat) : Int) = size by omega, hs]; simp), hlast, if_neg (by omega), List.append_assoc, List.take_left]
  exact he

theorem fitN_spec (cs : List Nat) (size : Int) (h1 : 0 ≤ size - 1) (n : Nat) : fitN cs size n ≤ n ∧ ((squeeze (cs.take (fitN cs size n))).length : Int) ≤ size - 1 ∧ (fitN cs size n < n → ¬ ((squeeze (cs.take (fitN cs size n + 1))).length : Int) ≤ size - 1) := by
  induction n with
  | zero => exact ⟨Nat.le_refl _, by simpa [fitN, squeeze] using h1, fun h => absurd h (by simp [fitN])⟩
  | succ n ih =>
    by_cases h : ((squeeze (cs.take (n + 1))).length : Int) ≤ size - 1
    · rw [fitN_yes h]
      exact ⟨Nat.le_refl _, h, fun h' => absurd h' (by omega)⟩
    · rw [fitN_no h]
      refine ⟨by omega, ih.2.1, fun hlt => ?_⟩
      by_cases he : fitN cs size n = n
      · rw [he]; exact h
      · exact ih.2.2 (by omega)

theorem squeeze_long (cs : List Nat) (h : cs.length ≠ 0) : cs.length + 1 ≤ (squeeze cs).length := by
  unfold squeeze
  rw [if_neg h, comp_len _ (wid_or cs)]
  rcases wid_or cs with e | e <;> rw [e] <;> omega

/-- What Fit returns of a text: the bytes of some of its characters; they fit, and one more would not. -/
theorem fit_spec {l : List UInt8} {size : Int} (hs : sized size = true) (h : (compressR l).2 = 0) :
    ∃ cs k, chars l = some cs ∧ k ≤ cs.length ∧ fitR l size = text (cs.take k) ∧ (dstrR (text (cs.take k)) size).2 = 0 ∧
      (k < cs.length → dstrR (text (cs.take (k + 1))) size = ([], 12)) := by
  by_cases h0 : (charsR l).2 = 0
  case neg => rw [compressR_err h0] at h; exact absurd h h0
  obtain ⟨hl', hc⟩ := charsR_zero h0
  have hcl := (chars_len hc).1
  have hall := chars_all hc
  obtain ⟨h2, h255⟩ := (sized_iff' size).1 hs
  have hsp := fitN_spec (charsR l).1 size (by omega) (min (charsR l).1.length size.toNat)
  have hk1 := hsp.1
  have hk2 := hsp.2.1
  refine ⟨(charsR l).1, fitN (charsR l).1 size (min (charsR l).1.length size.toNat), hc, by omega, fitR_ok h0 hs, ?_, ?_⟩
  · generalize fitN (charsR l).1 size (min (charsR l).1.length size.toNat) = k at *
    have e := compress_text ((charsR l).1.take k) (allChars_take hall k) (by rw [List.length_take]; omega)
    rw [dstr_ok hs (by rw [e]) (by rw [e]; dsimp only; omega)]
  · generalize hk : fitN (charsR l).1 size (min (charsR l).1.length size.toNat) = k at *
    intro hlt
    have hklt : k < min (charsR l).1.length size.toNat := by
      rcases Nat.lt_or_ge k (min (charsR l).1.length size.toNat) with x | x
      · exact x
      · have hkm : k = size.toNat := by omega
        by_cases hk0 : ((charsR l).1.take k).length = 0
        · rw [List.length_take] at hk0; omega
        · have := squeeze_long _ hk0
          rw [List.length_take] at this
          omega
    have e := compress_text ((charsR l).1.take (k + 1)) (allChars_take hall (k + 1)) (by rw [List.length_take]; omega)
    have hn := hsp.2.2 hklt
    exact dstr_full hs (by rw [e]) (by rw [e]; dsimp only; omega)

/-- The next character of a text behind some of its characters. -/
theorem dec_drop {cs : List Nat} (hall : allChars cs = true) {k : Nat} (hk : k < cs.length) :
    dec ((text cs).drop (text (cs.take k)).length) = some (cs.getD k 0, (enc (cs.getD k 0 : Nat)).length) ∧ (text cs).take ((text (cs.take k)).length + (enc (cs.getD k 0 : Nat)).length) = text (cs.take (k + 1)) ∧ (text (cs.take k)).length < (text cs).length := by
  have hc : isChar ((cs.getD k 0 : Nat) : Int) = true := List.all_eq_true.1 hall (cs.getD k 0) (by simp [List.getD, hk])
  have hd : cs.drop k = cs.getD k 0 :: cs.drop (k + 1) := by
    rw [List.drop_eq_getElem_cons hk]
    simp [List.getD, hk]
  have hs : text cs = text (cs.take k) ++ (enc (cs.getD k 0 : Nat) ++ text (cs.drop (k + 1))) := by
    have e : text cs = text (cs.take k) ++ text (cs.drop k) := by
      unfold text
      rw [← List.flatMap_append, List.take_append_drop]
    rw [e, hd]
    simp [text]
  have ht : text (cs.take (k + 1)) = text (cs.take k) ++ enc (cs.getD k 0 : Nat) := by
    rw [List.take_succ_eq_append_getElem hk, text_snoc]
    simp [List.getD, hk]
  have hp := enc_pos (cs.getD k 0 : Nat)
  refine ⟨?_, ?_, ?_⟩
  · rw [hs, List.drop_left]
    exact dec_enc _ hc _
  · rw [ht, hs, ← List.append_assoc, List.take_left' (by rw [List.length_append])]
  · rw [hs]
    simp only [List.length_append]
    omega
end Cs
end Go.Proofs.YtfdlnhflgiemiaaDoor
