/-
  Plain facts about compressed Unicode and dstring fields: what the functions of layer 32 return, as functions of lists of bytes, and the laws between them. No program in it.
-/
import Derived.Test.YtfdlnhflgiemiaaDoorChars
import Derived.Lib.Slices
namespace Go.Proofs.YtfdlnhflgiemiaaDoor
namespace Cs

/-- The bytes of one character in compressed Unicode of a width. -/
def cu (size : Nat) (c : Nat) : List UInt8 := if size = 1 then [UInt8.ofNat c] else [UInt8.ofNat (c / 256), UInt8.ofNat c]

/-- Compressed Unicode of characters with a width. -/
def comp (cs : List Nat) (size : Nat) : List UInt8 := UInt8.ofNat (8 * size) :: cs.flatMap (cu size)

/-- The width that the characters need. -/
def wid (cs : List Nat) : Nat := if cs.all (fun c => decide (c ≤ 255)) then 1 else 2

theorem wid_or (cs : List Nat) : wid cs = 1 ∨ wid cs = 2 := by unfold wid; split <;> simp

/-- Compressed Unicode of characters. -/
def squeeze (cs : List Nat) : List UInt8 := if cs.length = 0 then [] else comp cs (wid cs)

/-- What Compress returns. -/
def compressR (l : List UInt8) : List UInt8 × Int := if (charsR l).2 = 0 then (squeeze (charsR l).1, 0) else ([], (charsR l).2)

/-- The numbers that stand in compressed Unicode behind its first byte. -/
def units (size : Nat) : List UInt8 → List Nat
  | [] => []
  | [a] => if size = 1 then [a.toNat] else []
  | a :: b :: t => if size = 1 then a.toNat :: units size (b :: t) else (a.toNat * 256 + b.toNat) :: units size t

/-- The numbers as characters. -/
def allChars (ns : List Nat) : Bool := ns.all fun n => isChar (n : Int)

/-- The bytes of characters. -/
def text (ns : List Nat) : List UInt8 := ns.flatMap fun (n : Nat) => enc (n : Int)

/-- What Expand returns. -/
def expandR (d : List UInt8) : List UInt8 × Int :=
  if 65536 < d.length then ([], 7) else if d.length = 0 then ([], 0)
  else if ¬ (byt d 0 = 8 ∨ byt d 0 = 16) ∨ (byt d 0 = 16 ∧ d.length % 2 = 0) then ([], 3)
  else if allChars (units (byt d 0 / 8) (d.drop 1)) then (text (units (byt d 0 / 8) (d.drop 1)), 0) else ([], 2)

/-- A size that a field can have. -/
def sized (n : Int) : Bool := decide (2 ≤ n) && decide (n ≤ 255)

/-- What Dstring returns. -/
def dstrR (l : List UInt8) (size : Int) : List UInt8 × Int :=
  if sized size = false then ([], 1) else if ¬ (compressR l).2 = 0 then ([], (compressR l).2)
  else if size - 1 < (compressR l).1.length then ([], 12)
  else ((compressR l).1 ++ List.replicate (size.toNat - 1 - (compressR l).1.length) 0 ++ [UInt8.ofNat (compressR l).1.length], 0)

/-- What ParseDstring returns. -/
def parseR (f : List UInt8) : List UInt8 × Int :=
  if sized f.length = false then ([], 1) else if f.length - 1 < byt f (f.length - 1) then ([], 10) else expandR (f.take (byt f (f.length - 1)))

/-- The greatest number of characters, at most n, that fit in a field. -/
def fitN (cs : List Nat) (size : Int) : Nat → Nat
  | 0 => 0
  | n + 1 => if ((squeeze (cs.take (n + 1))).length : Int) ≤ size - 1 then n + 1 else fitN cs size n

/-- What Fit returns. -/
def fitR (l : List UInt8) (size : Int) : List UInt8 :=
  if (charsR l).2 = 0 ∧ sized size = true then text ((charsR l).1.take (fitN (charsR l).1 size (min (charsR l).1.length size.toNat))) else []

/-! ### laws -/

theorem isChar_le {n : Nat} (h : isChar (n : Int) = true) : n ≤ 65533 := by
  have := (isChar_iff _).1 h
  omega

theorem encZ_len (n : Int) : (encZ n).length = if n < 128 then 1 else if n < 2048 then 2 else 3 := by
  unfold encZ
  repeat' split
  all_goals simp

theorem enc_length (n : Int) : (enc n).length = if n < 128 then 1 else if n < 2048 then 2 else 3 := by
  unfold enc
  rw [List.length_map, encZ_len]

theorem num_enc (n : Int) (h0 : 0 ≤ n) (h1 : n ≤ 65535) (t : List UInt8) : num (enc n ++ t) (enc n).length = n := by
  have hb : ∀ i, (h : i < (enc n).length) → ((byt (enc n ++ t) i : Nat) : Int) = (encZ n).getD i 0 := by
    intro i h
    rw [← enc_toNat n h0 h1]
    simp [byt, List.getD, List.getElem?_append_left h, h]
  have hl := enc_length n
  by_cases a : n < 128
  · rw [if_pos a] at hl
    have e0 := hb 0 (by omega)
    rw [hl]
    unfold encZ at e0
    rw [if_pos a] at e0
    simpa [num] using e0
  · by_cases b : n < 2048
    · rw [if_neg a, if_pos b] at hl
      have e0 := hb 0 (by omega); have e1 := hb 1 (by omega)
      rw [hl]
      unfold encZ at e0 e1
      rw [if_neg a, if_pos b] at e0 e1
      simp at e0 e1
      show ((byt (enc n ++ t) 0 : Int) - 192) * 64 + byt (enc n ++ t) 1 - 128 = n
      rw [e0, e1]
      omega
    · rw [if_neg a, if_neg b] at hl
      have e0 := hb 0 (by omega); have e1 := hb 1 (by omega); have e2 := hb 2 (by omega)
      rw [hl]
      unfold encZ at e0 e1 e2
      rw [if_neg a, if_neg b] at e0 e1 e2
      simp at e0 e1 e2
      show ((byt (enc n ++ t) 0 : Int) - 224) * 4096 + ((byt (enc n ++ t) 1 : Int) - 128) * 64 + byt (enc n ++ t) 2 - 128 = n
      rw [e0, e1, e2]
      omega

theorem enc_pos (n : Int) : 1 ≤ (enc n).length := by
  rw [enc_length]
  split
  · omega
  · split <;> omega

/-- The bytes of a character are read as that character. -/
theorem dec_enc (n : Nat) (h : isChar (n : Int) = true) (t : List UInt8) : dec (enc (n : Int) ++ t) = some (n, (enc (n : Int)).length) := by
  have hc := (isChar_iff _).1 h
  have hp := enc_pos (n : Int)
  have hlen : 0 < (enc (n : Int) ++ t).length := by rw [List.length_append]; omega
  have hn := num_enc (n : Int) (by omega) (by omega) t
  have hf : fits (enc (n : Int) ++ t) (enc (n : Int)).length = true := by
    rw [fits_eq _ _ (by simp) (by rw [hn]; exact h), hn]
    simp
  have f1 := fits_one (enc (n : Int) ++ t)
  have f2 := fits_two (enc (n : Int) ++ t)
  have f3 := fits_three (enc (n : Int) ++ t)
  rw [dec_fits _ hlen]
  have hl := enc_length (n : Int)
  by_cases a : (n : Int) < 128
  · rw [if_pos a] at hl
    rw [hl] at hn hf ⊢
    rw [if_pos hf, hn]
    rfl
  · by_cases b : (n : Int) < 2048
    · rw [if_neg a, if_pos b] at hl
      rw [hl] at hn hf ⊢
      have h2 := f2.1 hf
      rw [if_neg (fun x => by have := f1.1 x; omega), if_pos hf, hn]
      rfl
    · rw [if_neg a, if_neg b] at hl
      rw [hl] at hn hf ⊢
      have h3 := f3.1 hf
      rw [if_neg (fun x => by have := f1.1 x; omega), if_neg (fun x => by have := f2.1 x; omega), if_pos hf, hn]
      rfl

theorem chars_text (ns : List Nat) : ∀ (_ : allChars ns = true), chars (text ns) = some ns := by
  induction ns with
  | nil => intro _; rfl
  | cons n t ih =>
    intro h
    unfold allChars at h ih
    rw [List.all_cons, Bool.and_eq_true] at h
    have e : text (n :: t) = enc (n : Int) ++ text t := by simp [text]
    rw [e, chars_step (by have := enc_pos (n : Int); simp; omega) (dec_enc n h.1 (text t)), List.drop_left, ih h.2]

/-- The first character's bytes. -/
theorem dec_take {l : List UInt8} (h : 0 < l.length) {n k : Nat} (hd : dec l = some (n, k)) : enc (n : Int) = l.take k := by
  have hw := dec_width h hd
  have hf := dec_fits l h
  rw [hd] at hf
  have fin : ∀ j, fits l j = true → (num l j).toNat = n → j = k → enc (n : Int) = l.take k := by
    rintro j hj hn rfl
    have hic : isChar (num l j) = true := by
      unfold fits at hj
      simp only [Bool.and_eq_true] at hj
      exact hj.2.1
    have hb := (isChar_iff _).1 hic
    have e : num l j = n := by omega
    rw [fits_eq _ _ hw.2.1 hic, e] at hj
    simpa using hj
  split at hf
  · rename_i h1
    simp only [Option.some.injEq, Prod.mk.injEq] at hf
    exact fin 1 h1 hf.1.symm hf.2.symm
  · split at hf
    · rename_i h2
      simp only [Option.some.injEq, Prod.mk.injEq] at hf
      exact fin 2 h2 hf.1.symm hf.2.symm
    · split at hf
      · rename_i h3
        simp only [Option.some.injEq, Prod.mk.injEq] at hf
        exact fin 3 h3 hf.1.symm hf.2.symm
      · cases hf

/-- A text is the bytes of its characters. -/
theorem text_chars {l : List UInt8} : ∀ {cs : List Nat}, chars l = some cs → text cs = l := by
  generalize hm : l.length = m
  induction m using Nat.strongRecOn generalizing l with
  | ind m ih =>
    intro cs hc
    by_cases h : 0 < l.length
    · obtain ⟨n, k, t, hd, rfl, ht⟩ := chars_some_step h hc
      have hw := dec_width h hd
      have r := ih (l.length - k) (by omega) (l := l.drop k) (by simp) ht
      have e : text (n :: t) = enc (n : Int) ++ text t := by simp [text]
      rw [e, r, dec_take h hd, List.take_append_drop]
    · have : l = [] := List.eq_nil_of_length_eq_zero (by omega)
      subst this
      rw [chars_nil] at hc
      obtain rfl := Option.some.inj hc
      rfl

theorem chars_all {l : List UInt8} {cs : List Nat} (h : chars l = some cs) : allChars cs = true := by
  unfold allChars
  rw [List.all_eq_true]
  exact (chars_len h).2

theorem units_flat (size : Nat) (hs : size = 1 ∨ size = 2) (cs : List Nat) (hc : ∀ c ∈ cs, c ≤ 65535) (h1 : size = 1 → ∀ c ∈ cs, c ≤ 255) : units size (cs.flatMap (cu size)) = cs := by
  induction cs with
  | nil => simp [units]
  | cons c t ih =>
    have i := ih (fun x hx => hc x (List.mem_cons_of_mem _ hx)) (fun e x hx => h1 e x (List.mem_cons_of_mem _ hx))
    have hc0 := hc c (List.mem_cons_self ..)
    rcases hs with rfl | rfl
    · have h10 := h1 rfl c (List.mem_cons_self ..)
      have e : (UInt8.ofNat c).toNat = c := by rw [UInt8.toNat_ofNat']; omega
      rw [List.flatMap_cons]
      rw [show cu 1 c = [UInt8.ofNat c] from rfl, List.singleton_append]
      cases hz : t.flatMap (cu 1) with
      | nil =>
        rw [hz] at i
        simp only [units, if_true] at i ⊢
        rw [e, ← i]
      | cons z y =>
        rw [hz] at i
        simp only [units, if_true] at i ⊢
        rw [e, i]
    · have e : (UInt8.ofNat (c / 256)).toNat = c / 256 := by rw [UInt8.toNat_ofNat']; omega
      have e' : (UInt8.ofNat c).toNat = c % 256 := by rw [UInt8.toNat_ofNat']
      rw [List.flatMap_cons]
      rw [show cu 2 c = [UInt8.ofNat (c / 256), UInt8.ofNat c] from rfl]
      show units 2 (UInt8.ofNat (c / 256) :: UInt8.ofNat c :: t.flatMap (cu 2)) = c :: t
      simp only [units]
      rw [if_neg (by decide), i, e, e']
      congr 1
      omega

theorem flat_cu_len (size : Nat) (hs : size = 1 ∨ size = 2) (cs : List Nat) : (cs.flatMap (cu size)).length = size * cs.length := by
  induction cs with
  | nil => simp
  | cons c t ih =>
    rw [List.flatMap_cons, List.length_append, ih, List.length_cons]
    rcases hs with rfl | rfl
    · simp [cu]; omega
    · simp [cu]; omega

theorem comp_len (size : Nat) (hs : size = 1 ∨ size = 2) (cs : List Nat) : (comp cs size).length = 1 + size * cs.length := by
  unfold comp
  rw [List.length_cons, flat_cu_len size hs]
  omega

theorem squeeze_len_le (cs : List Nat) : (squeeze cs).length ≤ 1 + 2 * cs.length := by
  unfold squeeze
  split
  · simp
  · rw [comp_len _ (wid_or cs)]
    rcases wid_or cs with h | h <;> rw [h] <;> omega

/-- Expanding what was compressed gives the text. -/
theorem expand_squeeze (cs : List Nat) (hc : allChars cs = true) (hl : cs.length ≤ 32767) : expandR (squeeze cs) = (text cs, 0) := by
  unfold squeeze
  split
  · rename_i h
    have : cs = [] := List.eq_nil_of_length_eq_zero h
    subst this
    rfl
  · have hw := wid_or cs
    have hlen := comp_len _ hw cs
    have hcs : ∀ c ∈ cs, c ≤ 65535 := fun c hm => by
      have := isChar_le (List.all_eq_true.1 hc c hm)
      omega
    have hw1 : wid cs = 1 → ∀ c ∈ cs, c ≤ 255 := by
      intro h c hm
      unfold wid at h
      split at h
      · rename_i ha
        simpa using List.all_eq_true.1 ha c hm
      · cases h
    have hu := units_flat (wid cs) hw cs hcs hw1
    have hb : byt (comp cs (wid cs)) 0 = 8 * wid cs := by
      unfold comp byt
      simp only [List.getD_cons_zero]
      rw [UInt8.toNat_ofNat']
      rcases hw with h | h <;> rw [h]
    have hd : (comp cs (wid cs)).drop 1 = cs.flatMap (cu (wid cs)) := rfl
    unfold expandR
    rw [if_neg (by rw [hlen]; rcases hw with h | h <;> rw [h] <;> omega), if_neg (by omega), hb, hd, show 8 * wid cs / 8 = wid cs by omega, hu, if_neg, if_pos hc]
    rcases hw with h | h <;> rw [hlen, h] <;> omega

theorem u8_mod (n : Nat) : UInt8.ofNat (n % 256) = UInt8.ofNat n := by
  apply UInt8.toNat_inj.1
  rw [UInt8.toNat_ofNat', UInt8.toNat_ofNat']
  omega

theorem wid_step (cs : List Nat) (j : Nat) (h : j < cs.length) : wid (cs.take (j + 1)) = if cs.getD j 0 ≤ 255 then wid (cs.take j) else 2 := by
  unfold wid
  rw [List.take_succ_eq_append_getElem h, List.all_append]
  have e : cs.getD j 0 = cs[j] := by simp [List.getD, h]
  rw [e]
  by_cases hc : cs[j] ≤ 255
  · simp [hc]
  · simp [hc]

theorem expandR_units {d : List UInt8} {size : Nat} (hd : d.length ≤ 65536) (h1 : 1 ≤ d.length) (hs : size = 1 ∨ size = 2) (hb : byt d 0 = 8 * size) (hev : (d.length - 1) % size = 0) :
    expandR d = if allChars (units size (d.drop 1)) then (text (units size (d.drop 1)), 0) else ([], 2) := by
  unfold expandR
  rw [if_neg (by omega), if_neg (by omega), if_neg (by rw [hb]; rcases hs with rfl | rfl <;> omega), hb, show 8 * size / 8 = size by omega]

theorem text_textR (cs : List Nat) (hc : allChars cs = true) (hl : cs.length ≤ 21845) : textR (cs.map fun (n : Nat) => (n : Int)) = (text cs, 0) := by
  rw [textR_ok (by simpa using hl)]
  · unfold text
    rw [List.flatMap_map]
  · unfold allChars at hc
    rw [List.all_map]
    exact hc

theorem allChars_take {cs : List Nat} (hc : allChars cs = true) (k : Nat) : allChars (cs.take k) = true := by
  unfold allChars at *
  rw [List.all_eq_true] at *
  exact fun x hx => hc x (List.mem_of_mem_take hx)

theorem text_len (ns : List Nat) : (text ns).length ≤ 3 * ns.length := by
  induction ns with
  | nil => simp [text]
  | cons a t ih =>
    have := enc_len (a : Int)
    have e : text (a :: t) = enc (a : Int) ++ text t := by simp [text]
    rw [e, List.length_append, List.length_cons]
    omega

theorem fitN_yes {cs : List Nat} {size : Int} {n : Nat} (h : ((squeeze (cs.take (n + 1))).length : Int) ≤ size - 1) : fitN cs size (n + 1) = n + 1 := by
  simp only [fitN]
  rw [if_pos h]
theorem fitN_no {cs : List Nat} {size : Int} {n : Nat} (h : ¬ ((squeeze (cs.take (n + 1))).length : Int) ≤ size - 1) : fitN cs size (n + 1) = fitN cs size n := by
  simp only [fitN]
  rw [if_neg h]
theorem fitR_ok {l : List UInt8} {size : Int} (h : (charsR l).2 = 0) (hs : sized size = true) : fitR l size = text ((charsR l).1.take (fitN (charsR l).1 size (min (charsR l).1.length size.toNat))) := if_pos ⟨h, hs⟩
theorem fitR_no {l : List UInt8} {size : Int} (h : ¬ ((charsR l).2 = 0 ∧ sized size = true)) : fitR l size = [] := if_neg h

theorem text_snoc (ns : List Nat) (u : Nat) : text (ns ++ [u]) = text ns ++ enc (u : Int) := by simp [text]

theorem foldl_max (zs : List Int) : ∀ (a b : Int), zs.foldl max a ≤ b ↔ a ≤ b ∧ ∀ z ∈ zs, z ≤ b := by
  induction zs with
  | nil => simp
  | cons z t ih =>
    intro a b
    rw [List.foldl_cons, ih]
    simp only [List.mem_cons, forall_eq_or_imp, Int.max_le, and_assoc]

theorem max_all (cs : List Nat) (h : cs.length ≠ 0) : Lib.maxOf (cs.map fun (n : Nat) => (n : Int)) ≤ 255 ↔ cs.all (fun c => decide (c ≤ 255)) = true := by
  unfold Lib.maxOf
  rw [foldl_max]
  cases cs with
  | nil => exact absurd rfl h
  | cons c t =>
    simp only [List.map_cons, List.headD_cons, List.mem_cons, forall_eq_or_imp, List.mem_map, List.all_cons, Bool.and_eq_true, decide_eq_true_eq, List.all_eq_true]
    constructor
    · rintro ⟨a, _, b⟩
      exact ⟨by omega, fun x hx => by have := b x ⟨x, hx, rfl⟩; omega⟩
    · rintro ⟨a, b⟩
      exact ⟨by omega, by omega, fun z hz => by obtain ⟨x, hx, rfl⟩ := hz; have := b x hx; omega⟩

theorem squeeze_wide {cs : List Nat} (h : cs.length ≠ 0) (hm : ¬ Lib.maxOf (cs.map fun (n : Nat) => (n : Int)) ≤ 255) : squeeze cs = comp cs 2 := by
  have : wid cs = 2 := if_neg (fun x => hm ((max_all cs h).2 x))
  unfold squeeze
  rw [if_neg h, this]
theorem squeeze_narrow {cs : List Nat} (h : cs.length ≠ 0) (hm : Lib.maxOf (cs.map fun (n : Nat) => (n : Int)) ≤ 255) : squeeze cs = comp cs 1 ∧ ∀ c ∈ cs, c ≤ 255 := by
  have ha := (max_all cs h).1 hm
  have : wid cs = 1 := if_pos ha
  unfold squeeze
  rw [if_neg h, this]
  exact ⟨rfl, fun c hc => by simpa using List.all_eq_true.1 ha c hc⟩

theorem compressR_ok {l : List UInt8} {cs : List Nat} (hl : l.length ≤ 65536) (h : chars l = some cs) : compressR l = (squeeze cs, 0) := by
  unfold compressR
  rw [charsR_some hl h]
  simp

theorem compressR_err {l : List UInt8} (h : (charsR l).2 ≠ 0) : compressR l = ([], (charsR l).2) := by
  unfold compressR
  rw [if_neg h]

theorem charsR_zero {l : List UInt8} (h : (charsR l).2 = 0) : l.length ≤ 65536 ∧ chars l = some (charsR l).1 := by
  unfold charsR at h ⊢
  split at h
  · cases h
  · rename_i hl
    rw [if_neg hl]
    cases hc : chars l with
    | none => rw [hc] at h; cases h
    | some cs => exact ⟨by omega, rfl⟩

theorem charsR_err {l : List UInt8} (h : (charsR l).2 ≠ 0) : (charsR l).1 = [] ∧ ((charsR l).2 = 7 ∧ 65536 < l.length ∨ (charsR l).2 = 3 ∧ l.length ≤ 65536) := by
  unfold charsR at h ⊢
  by_cases hl : 65536 < l.length
  · rw [if_pos hl]
    exact ⟨rfl, .inl ⟨rfl, hl⟩⟩
  · rw [if_neg hl] at h ⊢
    cases hc : chars l with
    | none => exact ⟨rfl, .inr ⟨rfl, by omega⟩⟩
    | some cs => rw [hc] at h; exact absurd rfl h
/-- Compressing the text with some characters. -/
theorem compress_text (cs : List Nat) (hc : allChars cs = true) (hl : cs.length ≤ 255) : compressR (text cs) = (squeeze cs, 0) :=
  compressR_ok (by have := text_len cs; omega) (chars_text cs hc)

end Cs
end Go.Proofs.YtfdlnhflgiemiaaDoor
