/-
  Plain laws of layer 17: texts are ordered like their characters, and like their UCS-2. No program in it.
-/
import Derived.Test.YtdcknfdileomoaaDoorLu
import Derived.Lib.Bytealg
namespace Go.Proofs.YtdcknfdileomoaaDoor
namespace Cs

/-- The order of lists of characters. -/
def cmpN : List Nat → List Nat → Int
  | [], [] => 0
  | [], _ :: _ => -1
  | _ :: _, [] => 1
  | a :: s, b :: t => if a < b then -1 else if b < a then 1 else cmpN s t

theorem cb_same (p s t : List UInt8) : Lib.compareBytes (p ++ s) (p ++ t) = Lib.compareBytes s t := by
  induction p with
  | nil => rfl
  | cons a p ih =>
    show Lib.compareBytes (a :: (p ++ s)) (a :: (p ++ t)) = _
    rw [Lib.compareBytes, if_neg (by simp), if_neg (by simp), ih]

theorem cb_lt {a b : UInt8} (s t : List UInt8) (h : a.toNat < b.toNat) : Lib.compareBytes (a :: s) (b :: t) = -1 := by
  rw [Lib.compareBytes, if_pos (UInt8.lt_iff_toNat_lt.2 h)]
theorem cb_gt {a b : UInt8} (s t : List UInt8) (h : b.toNat < a.toNat) : Lib.compareBytes (a :: s) (b :: t) = 1 := by
  rw [Lib.compareBytes, if_neg (fun k => by have := UInt8.lt_iff_toNat_lt.1 k; omega), if_pos (UInt8.lt_iff_toNat_lt.2 h)]
theorem cb_eq {a b : UInt8} (s t : List UInt8) (h : a.toNat = b.toNat) : Lib.compareBytes (a :: s) (b :: t) = Lib.compareBytes s t := by
  have : a = b := UInt8.toNat_inj.1 h
  subst this
  exact cb_same [a] s t
/-- The order the other way round. -/
theorem cb_swap : ∀ (s t : List UInt8), Lib.compareBytes s t = -1 → Lib.compareBytes t s = 1
  | [], [], h => by simp [Lib.compareBytes] at h
  | [], _ :: _, _ => rfl
  | _ :: _, [], h => by simp [Lib.compareBytes] at h
  | a :: s, b :: t, h => by
    by_cases h1 : a.toNat < b.toNat
    · exact cb_gt _ _ h1
    · by_cases h2 : b.toNat < a.toNat
      · rw [cb_gt _ _ h2] at h
        cases h
      · rw [cb_eq _ _ (by omega)] at h
        rw [cb_eq _ _ (by omega)]
        exact cb_swap s t h

theorem ob (n : Nat) (h : n < 256) : (UInt8.ofNat n).toNat = n := by
  rw [UInt8.toNat_ofNat']; omega

theorem enc_lt {a b : Nat} (ha : a ≤ 65535) (hb : b ≤ 65535) (h : a < b) (s t : List UInt8) : Lib.compareBytes (enc (a : Int) ++ s) (enc (b : Int) ++ t) = -1 := by
  have e : ∀ n : Nat, enc (n : Int) = if n < 128 then [UInt8.ofNat n] else if n < 2048 then [UInt8.ofNat (192 + n / 64), UInt8.ofNat (128 + n % 64)] else [UInt8.ofNat (224 + n / 4096), UInt8.ofNat (128 + n / 64 % 64), UInt8.ofNat (128 + n % 64)] := by
    intro n
    unfold enc encZ
    by_cases h1 : n < 128
    · rw [if_pos (by omega), if_pos h1]
      simp
    · rw [if_neg (by omega), if_neg h1]
      by_cases h2 : n < 2048
      · rw [if_pos (by omega), if_pos h2]
        simp only [List.map_cons, List.map_nil]
        rw [show (192 + (n : Int) / 64).toNat = 192 + n / 64 by omega, show (128 + (n : Int) % 64).toNat = 128 + n % 64 by omega]
      · rw [if_neg (by omega), if_neg h2]
        simp only [List.map_cons, List.map_nil]
        rw [show (224 + (n : Int) / 4096).toNat = 224 + n / 4096 by omega, show (128 + (n : Int) / 64 % 64).toNat = 128 + n / 64 % 64 by omega, show (128 + (n : Int) % 64).toNat = 128 + n % 64 by omega]
  rw [e a, e b]
  by_cases a1 : a < 128
  · rw [if_pos a1]
    by_cases b1 : b < 128
    · rw [if_pos b1]
      exact cb_lt _ _ (by rw [ob _ (by omega), ob _ (by omega)]; exact h)
    · rw [if_neg b1]
      by_cases b2 : b < 2048
      · rw [if_pos b2]
        exact cb_lt _ _ (by rw [ob _ (by omega), ob _ (by omega)]; omega)
      · rw [if_neg b2]
        exact cb_lt _ _ (by rw [ob _ (by omega), ob _ (by omega)]; omega)
  · rw [if_neg a1, if_neg (show ¬ b < 128 by omega)]
    by_cases a2 : a < 2048
    · rw [if_pos a2]
      by_cases b2 : b < 2048
      · rw [if_pos b2]
        by_cases h0 : 192 + a / 64 < 192 + b / 64
        · exact cb_lt _ _ (by rw [ob _ (by omega), ob _ (by omega)]; exact h0)
        · refine (cb_eq _ _ (by rw [ob _ (by omega), ob _ (by omega)]; omega)).trans ?_
          exact cb_lt _ _ (by rw [ob _ (by omega), ob _ (by omega)]; omega)
      · rw [if_neg b2]
        exact cb_lt _ _ (by rw [ob _ (by omega), ob _ (by omega)]; omega)
    · rw [if_neg a2, if_neg (show ¬ b < 2048 by omega)]
      by_cases h0 : 224 + a / 4096 < 224 + b / 4096
      · exact cb_lt _ _ (by rw [ob _ (by omega), ob _ (by omega)]; exact h0)
      · refine (cb_eq _ _ (by rw [ob _ (by omega), ob _ (by omega)]; omega)).trans ?_
        by_cases h1 : 128 + a / 64 % 64 < 128 + b / 64 % 64
        · exact cb_lt _ _ (by rw [ob _ (by omega), ob _ (by omega)]; exact h1)
        · refine (cb_eq _ _ (by rw [ob _ (by omega), ob _ (by omega)]; omega)).trans ?_
          exact cb_lt _ _ (by rw [ob _ (by omega), ob _ (by omega)]; omega)

theorem cu_lt {a b : Nat} (ha : a ≤ 65535) (hb : b ≤ 65535) (h : a < b) (s t : List UInt8) : Lib.compareBytes (cu 2 a ++ s) (cu 2 b ++ t) = -1 := by
  unfold cu
  rw [if_neg (by decide), if_neg (by decide)]
  have e : ∀ n : Nat, (UInt8.ofNat n).toNat = n % 256 := fun n => by rw [UInt8.toNat_ofNat']
  by_cases h0 : a / 256 < b / 256
  · exact cb_lt _ _ (by rw [e, e]; omega)
  · refine (cb_eq _ _ (by rw [e, e]; omega)).trans ?_
    exact cb_lt _ _ (by rw [e, e]; omega)

theorem order_of {f : Nat → List UInt8} (hf : ∀ a b, a ≤ 65535 → b ≤ 65535 → a < b → ∀ s t, Lib.compareBytes (f a ++ s) (f b ++ t) = -1) (hp : ∀ a, 1 ≤ (f a).length) :
    ∀ (cs ds : List Nat), (∀ c ∈ cs, c ≤ 65535) → (∀ c ∈ ds, c ≤ 65535) → Lib.compareBytes (cs.flatMap f) (ds.flatMap f) = cmpN cs ds
  | [], [], _, _ => rfl
  | [], d :: ds, _, _ => by
    rw [List.flatMap_cons]
    have := hp d
    cases hx : f d with
    | nil => rw [hx] at this; simp at this
    | cons x t => rfl
  | c :: cs, [], _, _ => by
    rw [List.flatMap_cons]
    have := hp c
    cases hx : f c with
    | nil => rw [hx] at this; simp at this
    | cons x t => rfl
  | c :: cs, d :: ds, hc, hd => by
    rw [List.flatMap_cons, List.flatMap_cons, cmpN]
    have h1 := hc c (by simp)
    have h2 := hd d (by simp)
    by_cases h : c < d
    · rw [if_pos h]
      exact hf c d h1 h2 h _ _
    · rw [if_neg h]
      by_cases h' : d < c
      · rw [if_pos h']
        exact cb_swap _ _ (hf d c h2 h1 h' _ _)
      · rw [if_neg h']
        have : c = d := by omega
        subst this
        rw [cb_same]
        exact order_of hf hp cs ds (fun x hx => hc x (by simp [hx])) (fun x hx => hd x (by simp [hx]))

/-- Texts are ordered like their characters, and like their UCS-2. -/
theorem order_text {l m : List UInt8} {cs ds : List Nat} (hl : chars l = some cs) (hm : chars m = some ds) : Lib.compareBytes l m = cmpN cs ds ∧ Lib.compareBytes (cs.flatMap (cu 2)) (ds.flatMap (cu 2)) = cmpN cs ds := by
  have h1 := allChars_small (chars_all hl)
  have h2 := allChars_small (chars_all hm)
  refine ⟨?_, ?_⟩
  · have e1 := text_chars hl
    have e2 := text_chars hm
    rw [← e1, ← e2]
    exact order_of (f := fun (n : Nat) => enc (n : Int)) (fun a b ha hb h s t => enc_lt ha hb h s t) (fun a => enc_pos _) cs ds h1 h2
  · exact order_of (f := cu 2) (fun a b ha hb h s t => cu_lt ha hb h s t) (fun a => by simp [cu]) cs ds h1 h2
end Cs
end Go.Proofs.YtdcknfdileomoaaDoor
