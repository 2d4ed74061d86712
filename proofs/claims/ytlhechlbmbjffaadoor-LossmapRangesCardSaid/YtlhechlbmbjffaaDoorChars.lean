/-
  Plain facts about texts: what a character is, how the first character of a list of bytes is read, the list of the characters of a text, and its bytes. No program in it.
-/
import Derived.Lib.DecodeN
import Derived.Lib.RuneBytes
namespace Go.Proofs.YtlhechlbmbjffaaDoor
namespace Cs

/-- A character's number. -/
def isChar (n : Int) : Bool := decide (32 ≤ n) && decide (n ≤ 65533) && (decide (n < 55296) || decide (57343 < n))

theorem isChar_iff (n : Int) : isChar n = true ↔ 32 ≤ n ∧ n ≤ 65533 ∧ (n < 55296 ∨ 57343 < n) := by
  simp [isChar, and_assoc]

theorem isChar_false (n : Int) : isChar n = false ↔ ¬ (32 ≤ n ∧ n ≤ 65533 ∧ (n < 55296 ∨ 57343 < n)) := by
  rw [← isChar_iff]; simp

/-- Byte number i of a list, 0 beyond its end. -/
def byt (l : List UInt8) (i : Nat) : Nat := (l.getD i 0).toNat
theorem byt_lt (l : List UInt8) (i : Nat) : byt l i < 256 := UInt8.toNat_lt _

/-- What Go's decoder says of the first bytes. -/
def raw (l : List UInt8) : Nat × Nat := Lib.decodeN l.length (byt l 0) (byt l 1) (byt l 2) (byt l 3)

/-- Whether a text can begin so. -/
def good (r : Nat × Nat) : Bool := isChar r.1 && !(r.1 == 65533 && r.2 == 1)

/-- The first character and its width; none if no character begins here. -/
def dec (l : List UInt8) : Option (Nat × Nat) := if good (raw l) then some (raw l) else none

theorem raw_width (l : List UInt8) (h : 0 < l.length) : 1 ≤ (raw l).2 ∧ (raw l).2 ≤ l.length ∧ (raw l).2 ≤ 4 ∧ (raw l).1 ≤ 1114111 := by
  have h0 := byt_lt l 0; have h1 := byt_lt l 1; have h2 := byt_lt l 2; have h3 := byt_lt l 3
  unfold raw Lib.decodeN
  repeat' split
  all_goals (refine ⟨?_, ?_, ?_, ?_⟩ <;> simp only <;> omega)

theorem dec_width {l : List UInt8} (h : 0 < l.length) {n k : Nat} (hd : dec l = some (n, k)) : 1 ≤ k ∧ k ≤ l.length ∧ isChar n = true := by
  have hw := raw_width l h
  unfold dec at hd
  split at hd
  · rename_i hg
    obtain ⟨rfl, rfl⟩ : (raw l).1 = n ∧ (raw l).2 = k := by
      have := Option.some.inj hd
      rw [this]; exact ⟨rfl, rfl⟩
    refine ⟨hw.1, hw.2.1, ?_⟩
    unfold good at hg
    simp only [Bool.and_eq_true] at hg
    exact hg.1
  · cases hd

theorem dec_char {l : List UInt8} {n k : Nat} (hd : dec l = some (n, k)) : n ≤ 65533 ∧ ¬ (n = 65533 ∧ k = 1) := by
  unfold dec at hd
  split at hd
  · rename_i hg
    obtain ⟨e1, e2⟩ : (raw l).1 = n ∧ (raw l).2 = k := by
      have := Option.some.inj hd
      rw [this]; exact ⟨rfl, rfl⟩
    unfold good at hg
    rw [e1, e2, Bool.and_eq_true, isChar_iff] at hg
    simp only [Bool.not_eq_true', Bool.and_eq_false_iff, beq_eq_false_iff_ne, ne_eq] at hg
    omega
  · cases hd

/-- The characters, with fuel. -/
def charsF : Nat → List UInt8 → Option (List Nat)
  | 0, l => if l.length = 0 then some [] else none
  | f + 1, l => if l.length = 0 then some [] else match dec l with
    | none => none
    | some (n, k) => match charsF f (l.drop k) with
      | none => none
      | some t => some (n :: t)

/-- The characters of a text; none if the bytes are no text. -/
def chars (l : List UInt8) : Option (List Nat) := charsF l.length l

theorem charsF_more (f : Nat) : ∀ (l : List UInt8) (g : Nat), l.length ≤ f → l.length ≤ g → charsF f l = charsF g l := by
  induction f with
  | zero =>
    intro l g h _
    have : l.length = 0 := by omega
    cases g <;> simp [charsF, this]
  | succ f ih =>
    intro l g h hg
    by_cases h0 : l.length = 0
    · cases g <;> simp [charsF, h0]
    · cases g with
      | zero => omega
      | succ g =>
        simp only [charsF, if_neg h0]
        cases hd : dec l with
        | none => rfl
        | some p =>
          obtain ⟨n, k⟩ := p
          have hw := dec_width (by omega) hd
          have e := ih (l.drop k) g (by simp; omega) (by simp; omega)
          simp only [e]

theorem chars_nil : chars [] = some [] := rfl

theorem chars_step {l : List UInt8} (h : 0 < l.length) {n k : Nat} (hd : dec l = some (n, k)) :
    chars l = match chars (l.drop k) with | none => none | some t => some (n :: t) := by
  have hw := dec_width h hd
  unfold chars
  obtain ⟨m, hm⟩ : ∃ m, l.length = m + 1 := ⟨l.length - 1, by omega⟩
  rw [hm]
  simp only [charsF, hd]
  rw [if_neg (by omega), charsF_more m (l.drop k) (l.drop k).length (by simp; omega) (Nat.le_refl _)]

theorem chars_none {l : List UInt8} (h : 0 < l.length) (hd : dec l = none) : chars l = none := by
  unfold chars
  obtain ⟨m, hm⟩ : ∃ m, l.length = m + 1 := ⟨l.length - 1, by omega⟩
  rw [hm]
  simp only [charsF, hd]
  rw [if_neg (by omega)]

theorem chars_some_step {l : List UInt8} (h : 0 < l.length) {cs : List Nat} (hc : chars l = some cs) :
    ∃ n k t, dec l = some (n, k) ∧ cs = n :: t ∧ chars (l.drop k) = some t := by
  cases hd : dec l with
  | none => rw [chars_none h hd] at hc; cases hc
  | some p =>
    obtain ⟨n, k⟩ := p
    rw [chars_step h hd] at hc
    cases ht : chars (l.drop k) with
    | none => rw [ht] at hc; cases hc
    | some t =>
      rw [ht] at hc
      exact ⟨n, k, t, rfl, (Option.some.inj hc).symm, ht⟩

theorem chars_none_step {l : List UInt8} (h : 0 < l.length) (hc : chars l = none) :
    dec l = none ∨ ∃ n k, dec l = some (n, k) ∧ chars (l.drop k) = none := by
  cases hd : dec l with
  | none => exact .inl rfl
  | some p =>
    obtain ⟨n, k⟩ := p
    rw [chars_step h hd] at hc
    cases ht : chars (l.drop k) with
    | none => exact .inr ⟨n, k, rfl, ht⟩
    | some t => rw [ht] at hc; cases hc

theorem chars_len {l : List UInt8} : ∀ {cs : List Nat}, chars l = some cs → cs.length ≤ l.length ∧ ∀ c ∈ cs, isChar c = true := by
  generalize hm : l.length = m
  induction m using Nat.strongRecOn generalizing l with
  | ind m ih =>
    intro cs hc
    by_cases h : 0 < l.length
    · obtain ⟨n, k, t, hd, rfl, ht⟩ := chars_some_step h hc
      have hw := dec_width h hd
      have r := ih (l.length - k) (by omega) (l := l.drop k) (by simp) ht
      refine ⟨by simp; omega, ?_⟩
      intro c hcm
      rcases List.mem_cons.1 hcm with rfl | hcm
      · exact hw.2.2
      · exact r.2 c hcm
    · have : l = [] := List.eq_nil_of_length_eq_zero (by omega)
      subst this
      rw [chars_nil] at hc
      obtain rfl := Option.some.inj hc
      simp

/-- What Characters returns: the characters, and the error's number. -/
def charsR (l : List UInt8) : List Nat × Int := if 65536 < l.length then ([], 7) else match chars l with
  | none => ([], 3)
  | some cs => (cs, 0)

theorem charsR_long {l : List UInt8} (h : 65536 < l.length) : charsR l = ([], 7) := if_pos h
theorem charsR_none {l : List UInt8} (h : l.length ≤ 65536) (hc : chars l = none) : charsR l = ([], 3) := by
  unfold charsR
  rw [if_neg (by omega), hc]
theorem charsR_some {l : List UInt8} {cs : List Nat} (h : l.length ≤ 65536) (hc : chars l = some cs) : charsR l = (cs, 0) := by
  unfold charsR
  rw [if_neg (by omega), hc]

/-- Some characters have been read, the rest is still to be read. -/
def Read (l : List UInt8) (acc : List Nat) (rest : List UInt8) : Prop := chars l = match chars rest with
  | none => none
  | some t => some (acc ++ t)

theorem Read.start (l : List UInt8) : Read l [] l := by
  unfold Read
  cases chars l <;> rfl
theorem Read.step {l rest : List UInt8} {acc : List Nat} {n k : Nat} (h : Read l acc rest) (h0 : 0 < rest.length) (hd : dec rest = some (n, k)) : Read l (acc ++ [n]) (rest.drop k) := by
  unfold Read at h ⊢
  rw [h, chars_step h0 hd]
  cases chars (rest.drop k) with
  | none => rfl
  | some t => simp
theorem Read.fail {l rest : List UInt8} {acc : List Nat} (h : Read l acc rest) (h0 : 0 < rest.length) (hd : dec rest = none) : chars l = none := by
  unfold Read at h
  rw [h, chars_none h0 hd]
theorem Read.done {l rest : List UInt8} {acc : List Nat} (h : Read l acc rest) (h0 : rest.length = 0) : chars l = some acc := by
  unfold Read at h
  rw [h, List.eq_nil_of_length_eq_zero h0, chars_nil]
  simp

theorem fr_some {l : List UInt8} {n k : Nat} (h : dec l = some (n, k)) : (dec l).getD (0, 0) = (n, k) := by rw [h]; rfl

/-! ### the reference's way: sizes 1, 2, 3 in turn -/

/-- The number that the first k bytes would encode. -/
def num (l : List UInt8) (k : Nat) : Int :=
  if k = 1 then byt l 0
  else if k = 2 then ((byt l 0 : Int) - 192) * 64 + byt l 1 - 128
  else ((byt l 0 : Int) - 224) * 4096 + ((byt l 1 : Int) - 128) * 64 + byt l 2 - 128

/-- The bytes of a character, as numbers. -/
def encZ (n : Int) : List Int :=
  if n < 128 then [n] else if n < 2048 then [192 + n / 64, 128 + n % 64] else [224 + n / 4096, 128 + n / 64 % 64, 128 + n % 64]

/-- The first k bytes are those of a character. -/
def fits (l : List UInt8) (k : Nat) : Bool := decide (k ≤ l.length) && (isChar (num l k) && decide (encZ (num l k) = (l.take k).map fun b => (b.toNat : Int)))

theorem take_one (l : List UInt8) (h : 1 ≤ l.length) : (l.take 1).map (fun b => (b.toNat : Int)) = [(byt l 0 : Int)] := by
  match l, h with
  | a :: t, _ => simp [byt]
theorem take_two (l : List UInt8) (h : 2 ≤ l.length) : (l.take 2).map (fun b => (b.toNat : Int)) = [(byt l 0 : Int), byt l 1] := by
  match l, h with
  | a :: b :: t, _ => simp [byt]
theorem take_three (l : List UInt8) (h : 3 ≤ l.length) : (l.take 3).map (fun b => (b.toNat : Int)) = [(byt l 0 : Int), byt l 1, byt l 2] := by
  match l, h with
  | a :: b :: c :: t, _ => simp [byt]

theorem fits_one (l : List UInt8) : fits l 1 = true ↔ 1 ≤ l.length ∧ 32 ≤ byt l 0 ∧ byt l 0 < 128 := by
  by_cases hl : 1 ≤ l.length
  · unfold fits
    rw [take_one l hl]
    have e : num l 1 = byt l 0 := rfl
    rw [e]
    simp only [Bool.and_eq_true, decide_eq_true_eq, isChar_iff]
    have h0 := byt_lt l 0
    constructor
    · rintro ⟨_, h, h'⟩
      unfold encZ at h'
      split at h'
      · omega
      · split at h' <;> simp at h'
    · rintro ⟨_, a, b⟩
      refine ⟨hl, by omega, ?_⟩
      unfold encZ
      rw [if_pos (by omega)]
  · simp [fits, hl]

theorem fits_two (l : List UInt8) : fits l 2 = true ↔ 2 ≤ l.length ∧ 194 ≤ byt l 0 ∧ byt l 0 < 224 ∧ 128 ≤ byt l 1 ∧ byt l 1 < 192 := by
  by_cases hl : 2 ≤ l.length
  · unfold fits
    rw [take_two l hl]
    have e : num l 2 = ((byt l 0 : Int) - 192) * 64 + byt l 1 - 128 := rfl
    rw [e]
    simp only [Bool.and_eq_true, decide_eq_true_eq, isChar_iff]
    have h0 := byt_lt l 0; have h1 := byt_lt l 1
    constructor
    · rintro ⟨_, h, h'⟩
      unfold encZ at h'
      split at h'
      · simp at h'
      · split at h'
        · simp only [List.cons.injEq, and_true] at h'; omega
        · simp at h'
    · rintro ⟨_, a, b, c, d⟩
      refine ⟨hl, by omega, ?_⟩
      unfold encZ
      rw [if_neg (by omega), if_pos (by omega)]
      simp only [List.cons.injEq, and_true]
      omega
  · simp [fits, hl]

theorem fits_three (l : List UInt8) : fits l 3 = true ↔ 3 ≤ l.length ∧ 224 ≤ byt l 0 ∧ byt l 0 < 240 ∧ 128 ≤ byt l 1 ∧ byt l 1 < 192 ∧ 128 ≤ byt l 2 ∧ byt l 2 < 192 ∧ 2048 ≤ num l 3 ∧ isChar (num l 3) = true := by
  by_cases hl : 3 ≤ l.length
  · unfold fits
    rw [take_three l hl]
    have e : num l 3 = ((byt l 0 : Int) - 224) * 4096 + ((byt l 1 : Int) - 128) * 64 + byt l 2 - 128 := rfl
    rw [e]
    simp only [Bool.and_eq_true, decide_eq_true_eq, isChar_iff]
    have h0 := byt_lt l 0; have h1 := byt_lt l 1; have h2 := byt_lt l 2
    constructor
    · rintro ⟨_, h, h'⟩
      unfold encZ at h'
      split at h'
      · simp at h'
      · split at h'
        · simp at h'
        · simp only [List.cons.injEq, and_true] at h'; omega
    · rintro ⟨_, a, b, c, d, x, y, z, i⟩
      refine ⟨hl, by omega, ?_⟩
      unfold encZ
      rw [if_neg (by omega), if_neg (by omega)]
      simp only [List.cons.injEq, and_true]
      omega
  · simp [fits, hl]

/-- The reference's way gives what the decoder gives. -/
theorem dec_fits (l : List UInt8) (h : 0 < l.length) :
    dec l = if fits l 1 then some ((num l 1).toNat, 1) else if fits l 2 then some ((num l 2).toNat, 2) else if fits l 3 then some ((num l 3).toNat, 3) else none := by
  have h0 := byt_lt l 0; have h1 := byt_lt l 1; have h2 := byt_lt l 2; have h3 := byt_lt l 3
  have f1 := fits_one l; have f2 := fits_two l; have f3 := fits_three l
  have e1 : num l 1 = byt l 0 := rfl
  have e2 : num l 2 = ((byt l 0 : Int) - 192) * 64 + byt l 1 - 128 := rfl
  have e3 : num l 3 = ((byt l 0 : Int) - 224) * 4096 + ((byt l 1 : Int) - 128) * 64 + byt l 2 - 128 := rfl
  have key : ∀ (r : Nat × Nat), raw l = r → (if good r then some r else none) = if fits l 1 then some ((num l 1).toNat, 1) else if fits l 2 then some ((num l 2).toNat, 2) else if fits l 3 then some ((num l 3).toNat, 3) else none := by
    intro r hr
    have g1 : good r = true ↔ (32 ≤ r.1 ∧ r.1 ≤ 65533 ∧ (r.1 < 55296 ∨ 57343 < r.1)) ∧ ¬ (r.1 = 65533 ∧ r.2 = 1) := by
      unfold good
      rw [Bool.and_eq_true, isChar_iff]
      simp only [Bool.not_eq_true', Bool.and_eq_false_iff, beq_eq_false_iff_ne, ne_eq]
      omega
    rw [isChar_iff] at f3
    unfold raw Lib.decodeN at hr
    by_cases c1 : fits l 1 = true
    · have := f1.1 c1
      rw [if_pos c1]
      rw [if_pos (by omega)] at hr
      subst hr
      rw [if_pos (g1.2 (by simp only; omega)), e1]
      simp
    · rw [if_neg c1]
      by_cases c2 : fits l 2 = true
      · have := f2.1 c2
        rw [if_pos c2]
        rw [if_neg (by omega), if_pos (by omega), if_pos (by omega)] at hr
        subst hr
        rw [if_pos (g1.2 (by simp only; omega)), e2]
        congr 2
        omega
      · rw [if_neg c2]
        by_cases c3 : fits l 3 = true
        · have := f3.1 c3
          rw [if_pos c3]
          rw [if_neg (by omega), if_neg (by omega), if_pos (by omega), if_pos (by omega)] at hr
          subst hr
          rw [if_pos (g1.2 (by simp only; omega)), e3]
          congr 2
          omega
        · rw [if_neg c3, if_neg]
          intro hg
          have hg := g1.1 hg
          revert hr
          repeat' split
          all_goals (rintro rfl; simp only at hg)
          all_goals first
            | (apply c1; apply f1.2; omega)
            | (apply c2; apply f2.2; omega)
            | (apply c3; apply f3.2; omega)
            | exact hg.2 (by simp)
            | (simp at hg; done)
            | omega
  exact key _ rfl
/-- What the reference's 'first' returns. -/
def fr (l : List UInt8) : Nat × Nat := (dec l).getD (0, 0)

/-- The bytes of a number that is a character. -/
def enc (n : Int) : List UInt8 := (encZ n).map fun x => UInt8.ofNat x.toNat

theorem encZ_byte (n : Int) (h0 : 0 ≤ n) (h1 : n ≤ 65535) : ∀ x ∈ encZ n, 0 ≤ x ∧ x < 256 := by
  intro x hx
  unfold encZ at hx
  split at hx
  · simp at hx; omega
  · split at hx
    · simp at hx; omega
    · simp at hx; omega

theorem enc_toNat (n : Int) (h0 : 0 ≤ n) (h1 : n ≤ 65535) : (enc n).map (fun b => (b.toNat : Int)) = encZ n := by
  unfold enc
  rw [List.map_map]
  have e : ∀ x ∈ encZ n, ((fun (b : UInt8) => (b.toNat : Int)) ∘ fun x => UInt8.ofNat x.toNat) x = id x := by
    intro x hx
    obtain ⟨a, b⟩ := encZ_byte n h0 h1 x hx
    show ((UInt8.ofNat x.toNat).toNat : Int) = x
    rw [UInt8.toNat_ofNat']
    omega
  rw [List.map_congr_left e, List.map_id]

theorem bytes_inj {a b : List UInt8} : a.map (fun b => (b.toNat : Int)) = b.map (fun b => (b.toNat : Int)) ↔ a = b := by
  constructor
  · intro h
    induction a generalizing b with
    | nil => cases b with
      | nil => rfl
      | cons y b => simp at h
    | cons x a ih => cases b with
      | nil => simp at h
      | cons y b =>
        simp only [List.map_cons, List.cons.injEq] at h
        rw [UInt8.toNat_inj.1 (show x.toNat = y.toNat by omega), ih h.2]
  · rintro rfl; rfl

/-- What the reference tests of the first k bytes. -/
theorem fits_eq (l : List UInt8) (k : Nat) (hk : k ≤ l.length) (hc : isChar (num l k) = true) : fits l k = decide (enc (num l k) = l.take k) := by
  have h := (isChar_iff _).1 hc
  unfold fits
  rw [hc]
  simp only [hk, decide_true, Bool.true_and]
  rw [← enc_toNat (num l k) (by omega) (by omega)]
  exact decide_eq_decide.2 bytes_inj

theorem fits_no (l : List UInt8) (k : Nat) (hc : isChar (num l k) = false) : fits l k = false := by
  unfold fits
  rw [hc]
  simp
theorem fr_of (l : List UInt8) (h : 0 < l.length) (k : Nat) (h1 : 1 ≤ k) (h3 : k ≤ 3) (hno : ∀ j, 1 ≤ j → j < k → fits l j = false) (hf : fits l k = true) : fr l = ((num l k).toNat, k) := by
  have hd := dec_fits l h
  unfold fr
  rw [hd]
  have hk : k = 1 ∨ k = 2 ∨ k = 3 := by omega
  rcases hk with rfl | rfl | rfl
  · rw [if_pos hf]; rfl
  · rw [if_neg (by rw [hno 1 (by omega) (by omega)]; simp), if_pos hf]; rfl
  · rw [if_neg (by rw [hno 1 (by omega) (by omega)]; simp), if_neg (by rw [hno 2 (by omega) (by omega)]; simp), if_pos hf]; rfl

theorem fr_none (l : List UInt8) (h : 0 < l.length) (hno : ∀ j, 1 ≤ j → j ≤ 3 → fits l j = false) : fr l = (0, 0) := by
  have hd := dec_fits l h
  unfold fr
  rw [hd, if_neg (by rw [hno 1 (by omega) (by omega)]; simp), if_neg (by rw [hno 2 (by omega) (by omega)]; simp), if_neg (by rw [hno 3 (by omega) (by omega)]; simp)]
  rfl

/-- The text with some characters, and the error's number. -/
def textR (zs : List Int) : List UInt8 × Int := if 21845 < zs.length then ([], 7) else if zs.all isChar then (zs.flatMap enc, 0) else ([], 2)
theorem textR_long {zs : List Int} (h : 21845 < zs.length) : textR zs = ([], 7) := if_pos h
theorem textR_ok {zs : List Int} (h : zs.length ≤ 21845) (ha : zs.all isChar = true) : textR zs = (zs.flatMap enc, 0) := by
  unfold textR
  rw [if_neg (by omega), if_pos ha]
theorem textR_no {zs : List Int} (h : zs.length ≤ 21845) {j : Nat} (hj : j < zs.length) (hc : isChar (zs.getD j 0) = false) : textR zs = ([], 2) := by
  unfold textR
  rw [if_neg (by omega), if_neg]
  intro ha
  have := List.all_eq_true.1 ha (zs.getD j 0) (by simp [List.getD, hj])
  rw [hc] at this
  cases this
theorem all_take {zs : List Int} {j : Nat} (hj : j < zs.length) (h : (zs.take j).all isChar = true) (hc : isChar (zs.getD j 0) = true) : (zs.take (j + 1)).all isChar = true := by
  rw [List.take_succ_eq_append_getElem hj, List.all_append, h]
  simpa [List.getD, hj] using hc
theorem flat_take {zs : List Int} {j : Nat} (hj : j < zs.length) : (zs.take (j + 1)).flatMap enc = (zs.take j).flatMap enc ++ enc (zs.getD j 0) := by
  rw [List.take_succ_eq_append_getElem hj, List.flatMap_append]
  simp [List.getD, hj]
theorem enc_len (n : Int) : (enc n).length ≤ 3 := by
  unfold enc encZ
  repeat' split
  all_goals simp
theorem flat_len (zs : List Int) : (zs.flatMap enc).length ≤ 3 * zs.length := by
  induction zs with
  | nil => simp
  | cons a t ih =>
    have := enc_len a
    simp only [List.flatMap_cons, List.length_append, List.length_cons]
    omega

theorem fits_long (l : List UInt8) (k : Nat) (h : l.length < k) : fits l k = false := by
  unfold fits
  simp; omega
end Cs
end Go.Proofs.YtlhechlbmbjffaaDoor
