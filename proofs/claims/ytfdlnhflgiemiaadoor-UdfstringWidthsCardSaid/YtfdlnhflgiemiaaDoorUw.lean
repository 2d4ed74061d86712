/-
  Plain facts about a range over a text, and about the bytes of compressed Unicode one by one.
-/
import Derived.Test.YtfdlnhflgiemiaaDoorUt
import Derived.Test.YtfdlnhflgiemiaaDoorKit2
import Derived.Lib.RuneCount
import Derived.Shelf.Unicode.DecodeSlow
namespace Go.Proofs.YtfdlnhflgiemiaaDoor
open Go.RowKit
namespace Cs

theorem get_byt (s : ByteArray) (i : Nat) : (s.get! i).toNat = byt s.data.toList i := by
  unfold byt
  congr 1
  by_cases hi : i < s.size
  · rw [Utf8W.get!_of_lt s i hi]
    have hi' : i < s.data.size := hi
    simp only [List.getD, Array.getElem?_toList, Array.getElem?_eq_getElem hi']
    rfl
  · have hi' : ¬ i < s.data.size := by simpa using hi
    cases s with
    | mk d =>
      show d[i]! = _
      simp at hi'
      simp [List.getD, hi']
      rfl

theorem byt_drop (l : List UInt8) (i j : Nat) : byt (l.drop i) j = byt l (i + j) := by
  unfold byt
  simp [List.getD, List.getElem?_drop]

/-- The model's decode at a place of a string. -/
theorem decode_raw (s : ByteArray) (i : Nat) : Utf8.decode s i = raw (s.data.toList.drop i) := by
  rw [Lib.decode_at, get_byt, get_byt, get_byt, get_byt]
  unfold raw
  rw [byt_drop, byt_drop, byt_drop, byt_drop, List.length_drop, Kit.len_size]
  rfl

/-- Where character number j of a text stands. -/
def pos (cs : List Nat) (j : Nat) : Nat := (text (cs.take j)).length

theorem pos_zero (cs : List Nat) : pos cs 0 = 0 := by simp [pos, text]
theorem pos_all (cs : List Nat) : pos cs cs.length = (text cs).length := by simp [pos]

theorem decode_pos {s : ByteArray} {cs : List Nat} (hc : chars s.data.toList = some cs) {j : Nat} (hj : j < cs.length) :
    Utf8.decode s (pos cs j) = (cs.getD j 0, pos cs (j + 1) - pos cs j) ∧ pos cs j < s.size ∧ pos cs j < pos cs (j + 1) := by
  have ht := text_chars hc
  obtain ⟨h1, h2, h3⟩ := dec_drop (chars_all hc) hj
  rw [ht] at h1 h2 h3
  have hp := enc_pos ((cs.getD j 0 : Nat) : Int)
  have hl : pos cs (j + 1) = pos cs j + (enc ((cs.getD j 0 : Nat) : Int)).length := by
    unfold pos
    rw [List.take_succ_eq_append_getElem hj, text_snoc, List.length_append]
    simp [List.getD, hj]
  refine ⟨?_, by rw [← Kit.len_size]; exact h3, by omega⟩
  rw [decode_raw, hl, Nat.add_sub_cancel_left]
  unfold dec at h1
  split at h1
  · have := Option.some.inj h1
    exact this
  · cases h1

theorem pos_end {s : ByteArray} {cs : List Nat} (hc : chars s.data.toList = some cs) : pos cs cs.length = s.size := by
  rw [pos_all, text_chars hc, Kit.len_size]

theorem runes_from {s : ByteArray} {cs : List Nat} (hc : chars s.data.toList = some cs) : ∀ (fuel j : Nat), j ≤ cs.length → s.size - pos cs j ≤ fuel → Lib.runeCountFrom s fuel (pos cs j) = cs.length - j := by
  intro fuel
  induction fuel with
  | zero =>
    intro j hj hf
    by_cases hlt : j < cs.length
    · have := decode_pos hc hlt
      omega
    · simp [Lib.runeCountFrom]; omega
  | succ f ih =>
    intro j hj hf
    by_cases hlt : j < cs.length
    · obtain ⟨h1, h2, h3⟩ := decode_pos hc hlt
      unfold Lib.runeCountFrom
      rw [if_pos h2, h1]
      dsimp only
      rw [show pos cs j + (pos cs (j + 1) - pos cs j) = pos cs (j + 1) by omega, ih (j + 1) (by omega) (by omega)]
      omega
    · have e : j = cs.length := by omega
      subst e
      rw [Lib.runeCountFrom_end _ _ _ (by rw [pos_end hc]; omega)]
      omega

theorem rune_count {s : ByteArray} {cs : List Nat} (hc : chars s.data.toList = some cs) : Lib.runeCount s = cs.length := by
  have := runes_from hc s.size 0 (by omega) (by omega)
  rw [pos_zero] at this
  unfold Lib.runeCount
  rw [this]
  omega

theorem byt_cons (a : UInt8) (l : List UInt8) (i : Nat) : byt (a :: l) (i + 1) = byt l i := by simp [byt]

theorem flat_one (cs : List Nat) (hc : ∀ c ∈ cs, c ≤ 255) : ∀ (j : Nat), j < cs.length → byt (cs.flatMap (cu 1)) j = cs.getD j 0 := by
  induction cs with
  | nil => intro j hj; simp at hj
  | cons c t ih =>
    intro j hj
    have e : (c :: t).flatMap (cu 1) = UInt8.ofNat c :: t.flatMap (cu 1) := rfl
    rw [e]
    cases j with
    | zero =>
      have := hc c (List.mem_cons_self ..)
      show (UInt8.ofNat c).toNat = c
      rw [UInt8.toNat_ofNat']; omega
    | succ j =>
      rw [byt_cons, ih (fun x hx => hc x (List.mem_cons_of_mem _ hx)) j (by simpa using hj)]
      simp [List.getD]
theorem flat_two (cs : List Nat) (hc : ∀ c ∈ cs, c ≤ 65535) : ∀ (j : Nat), j < cs.length → 256 * byt (cs.flatMap (cu 2)) (2 * j) + byt (cs.flatMap (cu 2)) (2 * j + 1) = cs.getD j 0 := by
  induction cs with
  | nil => intro j hj; simp at hj
  | cons c t ih =>
    intro j hj
    have e : (c :: t).flatMap (cu 2) = UInt8.ofNat (c / 256) :: UInt8.ofNat c :: t.flatMap (cu 2) := rfl
    rw [e]
    cases j with
    | zero =>
      have := hc c (List.mem_cons_self ..)
      show 256 * (UInt8.ofNat (c / 256)).toNat + (UInt8.ofNat c).toNat = c
      rw [UInt8.toNat_ofNat', UInt8.toNat_ofNat']; omega
    | succ j =>
      rw [show 2 * (j + 1) = 2 * j + 1 + 1 by omega, show 2 * j + 1 + 1 + 1 = (2 * j + 1) + 1 + 1 by omega, byt_cons, byt_cons, byt_cons, byt_cons, ih (fun x hx => hc x (List.mem_cons_of_mem _ hx)) j (by simpa using hj)]
      simp [List.getD]

/-- The bytes of compressed Unicode. -/
theorem squeeze_one {cs : List Nat} (h0 : cs.length ≠ 0) (hw : wid cs = 1) : (squeeze cs).length = 1 + cs.length ∧ byt (squeeze cs) 0 = 8 ∧ ∀ j, j < cs.length → byt (squeeze cs) (1 + j) = cs.getD j 0 := by
  have hs : squeeze cs = comp cs 1 := by unfold squeeze; rw [if_neg h0, hw]
  have hle : ∀ c ∈ cs, c ≤ 255 := by
    intro c hm
    unfold wid at hw
    split at hw
    · rename_i ha
      simpa using List.all_eq_true.1 ha c hm
    · cases hw
  rw [hs, comp_len _ (.inl rfl)]
  refine ⟨by omega, rfl, fun j hj => ?_⟩
  unfold comp
  rw [show 1 + j = j + 1 by omega, byt_cons, flat_one cs hle j hj]
theorem squeeze_two {cs : List Nat} (h0 : cs.length ≠ 0) (hw : wid cs = 2) (hc : ∀ c ∈ cs, c ≤ 65535) : (squeeze cs).length = 1 + 2 * cs.length ∧ byt (squeeze cs) 0 = 16 ∧ ∀ j, j < cs.length → 256 * byt (squeeze cs) (1 + 2 * j) + byt (squeeze cs) (1 + 2 * j + 1) = cs.getD j 0 := by
  have hs : squeeze cs = comp cs 2 := by unfold squeeze; rw [if_neg h0, hw]
  rw [hs, comp_len _ (.inr rfl)]
  refine ⟨by omega, rfl, fun j hj => ?_⟩
  unfold comp
  rw [show 1 + 2 * j = 2 * j + 1 by omega, byt_cons, byt_cons, flat_two cs hc j hj]
end Cs
end Go.Proofs.YtfdlnhflgiemiaaDoor
