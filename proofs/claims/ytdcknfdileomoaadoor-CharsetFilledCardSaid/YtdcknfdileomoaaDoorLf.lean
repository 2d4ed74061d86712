/-
  Plain laws of layer 17: fields and their trimming. No program in it.
-/
import Derived.Test.YtdcknfdileomoaaDoorLu
namespace Go.Proofs.YtdcknfdileomoaaDoor
namespace Cs

theorem rev_ind {α : Type} {P : List α → Prop} (h0 : P []) (hs : ∀ l a, P l → P (l ++ [a])) : ∀ l, P l := by
  intro l
  rw [← List.reverse_reverse l]
  induction l.reverse with
  | nil => exact h0
  | cons a t ih => rw [List.reverse_cons]; exact hs _ _ ih
theorem nil_or_snoc {α : Type} (l : List α) : l = [] ∨ ∃ t a, l = t ++ [a] :=
  rev_ind (P := fun l => l = [] ∨ ∃ t a, l = t ++ [a]) (.inl rfl) (fun l a _ => .inr ⟨l, a, rfl⟩) l

/-- A list is something that does not end in x, and x some times. -/
theorem split_end {α : Type} [DecidableEq α] (x : α) (l : List α) : ∃ (d : List α) (m : Nat), l = d ++ List.replicate m x ∧ ∀ y, d.getLast? = some y → y ≠ x := by
  refine rev_ind (P := fun l => ∃ (d : List α) (m : Nat), l = d ++ List.replicate m x ∧ ∀ y, d.getLast? = some y → y ≠ x) ⟨[], 0, rfl, by simp⟩ ?_ l
  · intro l a ih
    by_cases h : a = x
    · obtain ⟨d, m, e, hd⟩ := ih
      refine ⟨d, m + 1, ?_, hd⟩
      rw [e, h, List.append_assoc, List.replicate_succ']
    · exact ⟨l ++ [a], 0, by simp, by simp; exact h⟩

theorem enc32 : enc (32 : Int) = [32] := by decide
theorem text_rep (m : Nat) : text (List.replicate m 32) = List.replicate m 32 := by
  induction m with
  | zero => rfl
  | succ m ih =>
    rw [List.replicate_succ, List.replicate_succ]
    show enc ((32 : Nat) : Int) ++ text (List.replicate m 32) = _
    rw [ih]
    rw [show (((32 : Nat) : Int)) = (32 : Int) from rfl, enc32]
    rfl
theorem text_app (a b : List Nat) : text (a ++ b) = text a ++ text b := by simp [text]

theorem enc_last {n : Nat} (h : isChar (n : Int) = true) (h32 : n ≠ 32) : ∀ y, (enc (n : Int)).getLast? = some y → y ≠ 32 := by
  have hc := (isChar_iff _).1 h
  intro y hy e
  subst e
  unfold enc encZ at hy
  split at hy
  · simp only [List.map_cons, List.map_nil, List.getLast?_singleton, Option.some.injEq] at hy
    have := congrArg UInt8.toNat hy
    rw [UInt8.toNat_ofNat'] at this
    simp at this
    omega
  · split at hy
    · simp only [List.map_cons, List.map_nil, List.getLast?_cons_cons, List.getLast?_singleton, Option.some.injEq] at hy
      have := congrArg UInt8.toNat hy
      rw [UInt8.toNat_ofNat'] at this
      simp at this
      omega
    · simp only [List.map_cons, List.map_nil, List.getLast?_cons_cons, List.getLast?_singleton, Option.some.injEq] at hy
      have := congrArg UInt8.toNat hy
      rw [UInt8.toNat_ofNat'] at this
      simp at this
      omega

theorem text_last {d : List Nat} (ha : allChars d = true) (hd : ∀ y, d.getLast? = some y → y ≠ 32) : ∀ y, (text d).getLast? = some y → y ≠ 32 := by
  rcases nil_or_snoc d with rfl | ⟨l, a, rfl⟩
  · simp [text]
  · have h32 : a ≠ 32 := hd a (by simp)
    have hc : isChar (a : Int) = true := List.all_eq_true.1 ha a (by simp)
    intro y hy
    rw [text_app] at hy
    have e : text [a] = enc (a : Int) := by simp [text]
    rw [e, List.getLast?_append] at hy
    have hp := enc_pos (a : Int)
    cases hx : (enc (a : Int)).getLast? with
    | none =>
      rw [List.getLast?_eq_none_iff] at hx
      rw [hx] at hp
      simp at hp
    | some z =>
      rw [hx] at hy
      simp at hy
      subst hy
      exact enc_last hc h32 z hx

theorem trim_rep (d : List UInt8) (m : Nat) (hd : ∀ y, d.getLast? = some y → y ≠ 32) : Lib.trimRightB (d ++ List.replicate m 32) 32 = d := by
  have := Lib.trimRightB_take (d ++ List.replicate m 32) 32 d.length (by simp) (fun j b hj hb => by
    rw [List.getElem?_append_right hj, List.getElem?_replicate] at hb
    split at hb
    · simpa using hb.symm
    · cases hb) (fun b h0 hb => by
    refine hd b ?_
    rw [List.getElem?_append_left (by omega)] at hb
    rw [List.getLast?_eq_getElem?]
    exact hb)
  rw [this]
  simp

/-- The bytes of blanks at an even place. -/
theorem flat_rep (m : Nat) : (List.replicate m 32).flatMap (cu 2) = blanks2 m := by
  induction m with
  | zero => rfl
  | succ m ih =>
    rw [List.replicate_succ, List.flatMap_cons, ih]
    rfl
theorem blanks2_app (a b : Nat) : blanks2 a ++ blanks2 b = blanks2 (a + b) := by
  rw [← flat_rep, ← flat_rep, ← flat_rep, ← List.flatMap_append, List.replicate_append_replicate]
theorem blanks2_length (n : Nat) : (blanks2 n).length = 2 * n := by
  induction n with
  | zero => rfl
  | succ n ih => simp [blanks2, ih]; omega
theorem blanks2_byt (n j : Nat) (h : j < n) : byt (blanks2 n) (2 * j) = 0 ∧ byt (blanks2 n) (2 * j + 1) = 32 := by
  induction n generalizing j with
  | zero => omega
  | succ n ih =>
    match j with
    | 0 => exact ⟨rfl, rfl⟩
    | j + 1 =>
      have := ih j (by omega)
      rw [show 2 * (j + 1) = 2 * j + 1 + 1 by omega]
      exact this
theorem byt_app_right (a b : List UInt8) (j : Nat) : byt (a ++ b) (a.length + j) = byt b j := by
  unfold byt
  simp [List.getD, List.getElem?_append_right]
theorem byt_app_left (a b : List UInt8) (j : Nat) (h : j < a.length) : byt (a ++ b) j = byt a j := by
  unfold byt
  simp [List.getD, List.getElem?_append_left h]

theorem wt_blanks (a t : List UInt8) (M : Nat) (ha : a.length % 2 = 0) : ∀ n, n ≤ M → wtLen (a ++ blanks2 M ++ t) (a.length + 2 * n) = wtLen (a ++ blanks2 M ++ t) a.length := by
  intro n
  induction n with
  | zero => intro _; rfl
  | succ n ih =>
    intro h
    have hb := blanks2_byt M n (by omega)
    have hl := blanks2_length M
    have e0 : byt (a ++ blanks2 M ++ t) (a.length + 2 * n) = 0 := by
      rw [byt_app_left _ _ _ (by rw [List.length_append, hl]; omega), byt_app_right]
      exact hb.1
    have e1 : byt (a ++ blanks2 M ++ t) (a.length + 2 * n + 1) = 32 := by
      rw [byt_app_left _ _ _ (by rw [List.length_append, hl]; omega), Nat.add_assoc, byt_app_right]
      exact hb.2
    rw [show a.length + 2 * (n + 1) = a.length + 2 * n + 2 by omega, wtLen, if_pos ⟨by omega, e0, e1⟩]
    exact ih (by omega)

theorem wt_stop (d : List Nat) (t : List UInt8) (ha : allChars d = true) (hd : ∀ y, d.getLast? = some y → y ≠ 32) : wtLen (d.flatMap (cu 2) ++ t) (d.flatMap (cu 2)).length = (d.flatMap (cu 2)).length := by
  rcases nil_or_snoc d with rfl | ⟨l, a, rfl⟩
  · rfl
  · have h32 : a ≠ 32 := hd a (by simp)
    have hc : isChar (a : Int) = true := List.all_eq_true.1 ha a (by simp)
    have hc' := isChar_le hc
    have hll := flat_cu_len 2 (.inr rfl) l
    have e : (l ++ [a]).flatMap (cu 2) = l.flatMap (cu 2) ++ [UInt8.ofNat (a / 256), UInt8.ofNat a] := by simp [cu]
    rw [e]
    have hlen : (l.flatMap (cu 2) ++ [UInt8.ofNat (a / 256), UInt8.ofNat a]).length = (l.flatMap (cu 2)).length + 2 := by simp
    rw [hlen, wtLen, if_neg]
    rintro ⟨_, e0, e1⟩
    rw [List.append_assoc, show (l.flatMap (cu 2)).length = (l.flatMap (cu 2)).length + 0 from rfl, byt_app_right] at e0
    rw [List.append_assoc, byt_app_right] at e1
    have f0 : (UInt8.ofNat (a / 256)).toNat = 0 := e0
    have f1 : (UInt8.ofNat a).toNat = 32 := e1
    rw [UInt8.toNat_ofNat'] at f0 f1
    omega

/-- What WideTrim gives back of what WideField made. -/
theorem wide_back {l : List UInt8} {cs : List Nat} (hc : chars l = some cs) (n : Nat) (hl : cs.length ≤ 200) (hn : 2 * cs.length ≤ n) (h1 : n ≤ 1000) :
    wideTrimR (cs.flatMap (cu 2) ++ blanks2 ((n - 2 * cs.length) / 2) ++ List.replicate ((n - 2 * cs.length) % 2) 0) = (Lib.trimRightB l 32, 0) := by
  have hall := chars_all hc
  have htx := text_chars hc
  obtain ⟨d, m, hd, hlast⟩ := split_end 32 cs
  have hda : allChars d = true := by
    have := hall
    rw [hd] at this
    unfold allChars at this ⊢
    rw [List.all_append, Bool.and_eq_true] at this
    exact this.1
  have hdl := flat_cu_len 2 (.inr rfl) d
  have hcl : cs.length = d.length + m := by rw [hd]; simp
  have hw : cs.flatMap (cu 2) ++ blanks2 ((n - 2 * cs.length) / 2) ++ List.replicate ((n - 2 * cs.length) % 2) 0 = d.flatMap (cu 2) ++ blanks2 (m + (n - 2 * cs.length) / 2) ++ List.replicate ((n - 2 * cs.length) % 2) 0 := by
    have hfc : cs.flatMap (cu 2) = d.flatMap (cu 2) ++ blanks2 m := by rw [hd, List.flatMap_append, flat_rep]
    rw [hfc, List.append_assoc (d.flatMap (cu 2)), blanks2_app]
  rw [hw]
  have htr : Lib.trimRightB l 32 = text d := by
    rw [← htx, hd, text_app, text_rep]
    exact trim_rep _ _ (text_last hda hlast)
  rw [htr]
  generalize hM : m + (n - 2 * cs.length) / 2 = M
  generalize hr : (n - 2 * cs.length) % 2 = r
  have hbl := blanks2_length M
  have hlen : (d.flatMap (cu 2) ++ blanks2 M ++ List.replicate r (0 : UInt8)).length = 2 * d.length + 2 * M + r := by
    rw [List.length_append, List.length_append, hbl, hdl, List.length_replicate]
  have hrr : r = 0 ∨ r = 1 := by omega
  have hstart : (if (d.flatMap (cu 2) ++ blanks2 M ++ List.replicate r (0 : UInt8)).length % 2 = 1 ∧ byt (d.flatMap (cu 2) ++ blanks2 M ++ List.replicate r (0 : UInt8)) ((d.flatMap (cu 2) ++ blanks2 M ++ List.replicate r (0 : UInt8)).length - 1) = 0 then (d.flatMap (cu 2) ++ blanks2 M ++ List.replicate r (0 : UInt8)).length - 1 else (d.flatMap (cu 2) ++ blanks2 M ++ List.replicate r (0 : UInt8)).length) = (d.flatMap (cu 2)).length + 2 * M := by
    rw [hlen, hdl]
    rcases hrr with rfl | rfl
    · rw [if_neg (by omega)]; omega
    · have hb : byt (d.flatMap (cu 2) ++ blanks2 M ++ List.replicate 1 (0 : UInt8)) (2 * d.length + 2 * M + 1 - 1) = 0 := by
        have := byt_app_right (d.flatMap (cu 2) ++ blanks2 M) (List.replicate 1 (0 : UInt8)) 0
        rw [List.length_append, hbl, hdl] at this
        rw [show 2 * d.length + 2 * M + 1 - 1 = 2 * d.length + 2 * M + 0 by omega, this]
        rfl
      rw [if_pos ⟨by omega, hb⟩]
      omega
  unfold wideTrimR
  rw [hlen, if_neg (by omega)]
  unfold wtRest
  rw [hstart, wt_blanks _ _ M (by rw [hdl]; omega) M (Nat.le_refl _), List.append_assoc, wt_stop d _ hda hlast, List.take_left]
  exact from_ucs2 hda (by omega)
end Cs
end Go.Proofs.YtdcknfdileomoaaDoor
