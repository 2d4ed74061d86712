/-
  Sessions of a disc, plain: when a disc is valid, which spans are closed, when a disc continues another one.
-/
import Derived.Test.YtiekfipjbmdkpaaGreatDoorEa
namespace Go.Proofs.YtiekfipjbmdkpaaGreatDoor
open Go.RowKit
namespace Fi
/-- A session. -/
structure Se where
  start : Int
  count : Int
  closed : Bool
def se0 : Se := ⟨0, 0, false⟩
def seC (s : Se) : List Value := [.int .i64 s.start, .int .i64 s.count, .bool s.closed]
/-- A slice value that reads as sessions. -/
abbrev Sess (w : World) (v : Value) (l : List Se) : Prop := Kit.RowN w v 3 l.length (fun j => seC (l.getD j se0))
/-- Where session j may begin. -/
def endAt (l : List Se) : Nat → Int
  | 0 => 0
  | j + 1 => (l.getD j se0).start + (l.getD j se0).count
/-- Session j of n stands where it may not. -/
def badS (n : Nat) (e : Int) (j : Nat) (s : Se) : Bool := decide (s.start < e) || (decide (4096 < s.start) || (decide (s.count < 1) || (decide (4096 - s.start < s.count) || (!s.closed && decide ((j : Int) < (n : Int) - 1)))))
def badAt (l : List Se) (j : Nat) : Bool := badS l.length (endAt l j) j (l.getD j se0)
def sesOk (l : List Se) : Bool := (List.range l.length).all fun j => !badAt l j
/-- A disc is valid. -/
def validD (b : List ByteArray) (l : List Se) : Bool := Lm.validI b && (decide (l.length ≤ 16) && sesOk l)
theorem sesOk_true {l : List Se} (h : ∀ i, i < l.length → badAt l i = false) : sesOk l = true := by
  unfold sesOk
  rw [List.all_eq_true]
  intro j hj
  rw [List.mem_range] at hj
  rw [h j hj]
  rfl
theorem sesOk_false {l : List Se} {j : Nat} (hj : j < l.length) (h : badAt l j = true) : sesOk l = false := by
  unfold sesOk
  rw [List.all_eq_false]
  exact ⟨j, List.mem_range.2 hj, by rw [h]; simp⟩
theorem sesOk_at {l : List Se} (h : sesOk l = true) {j : Nat} (hj : j < l.length) : badAt l j = false := by
  unfold sesOk at h
  rw [List.all_eq_true] at h
  have := h j (List.mem_range.2 hj)
  simpa using this
theorem badS_false {n : Nat} {e : Int} {j : Nat} {s : Se} : badS n e j s = false ↔ e ≤ s.start ∧ s.start ≤ 4096 ∧ 1 ≤ s.count ∧ s.count ≤ 4096 - s.start ∧ (s.closed = true ∨ (n : Int) - 1 ≤ j) := by
  unfold badS
  simp only [Bool.or_eq_false_iff, decide_eq_false_iff_not, Bool.and_eq_false_iff, Bool.not_eq_false', Int.not_lt]
theorem endAt_ge {l : List Se} : ∀ {j : Nat}, (∀ i, i < j → badAt l i = false) → 0 ≤ endAt l j ∧ endAt l j ≤ 4096
  | 0, _ => by show (0 : Int) ≤ 0 ∧ (0 : Int) ≤ 4096; omega
  | j + 1, h => by
    obtain ⟨h1, h2⟩ := endAt_ge (l := l) (j := j) fun i hi => h i (by omega)
    obtain ⟨g1, g2, g3, g4, _⟩ := badS_false.1 (h j (by omega))
    show 0 ≤ (l.getD j se0).start + (l.getD j se0).count ∧ (l.getD j se0).start + (l.getD j se0).count ≤ 4096
    omega
/-- A session of a valid disc lies on it; all but the last one are closed. -/
theorem ses_in {l : List Se} (h : sesOk l = true) {j : Nat} (hj : j < l.length) : 0 ≤ (l.getD j se0).start ∧ (l.getD j se0).start ≤ 4096 ∧ 1 ≤ (l.getD j se0).count ∧ (l.getD j se0).start + (l.getD j se0).count ≤ 4096 ∧ (j + 1 < l.length → (l.getD j se0).closed = true) := by
  have h0 := (endAt_ge (l := l) (j := j) fun i hi => sesOk_at h (by omega)).1
  obtain ⟨h1, h2, h3, h4, h5⟩ := badS_false.1 (sesOk_at h hj)
  refine ⟨by omega, h2, h3, by omega, fun h => ?_⟩
  rcases h5 with h5 | h5
  · exact h5
  · omega
/-- The spans of the closed ones of the first k sessions. -/
def closedTo (l : List Se) : Nat → List (Int × Int)
  | 0 => []
  | k + 1 => if (l.getD k se0).closed then closedTo l k ++ [((l.getD k se0).start, (l.getD k se0).count)] else closedTo l k
def closedL (l : List Se) : List (Int × Int) := closedTo l l.length
theorem closedTo_le (l : List Se) : ∀ k, (closedTo l k).length ≤ k
  | 0 => Nat.le_refl _
  | k + 1 => by
    have := closedTo_le l k
    unfold closedTo
    split <;> simp <;> omega
theorem closedTo_mem {l : List Se} {x : Int × Int} : ∀ {k : Nat}, x ∈ closedTo l k ↔ ∃ i, i < k ∧ (l.getD i se0).closed = true ∧ x = ((l.getD i se0).start, (l.getD i se0).count)
  | 0 => by simp [closedTo]
  | k + 1 => by
    have ih := closedTo_mem (l := l) (x := x) (k := k)
    have up : (∃ i, i < k ∧ (l.getD i se0).closed = true ∧ x = ((l.getD i se0).start, (l.getD i se0).count)) → ∃ i, i < k + 1 ∧ (l.getD i se0).closed = true ∧ x = ((l.getD i se0).start, (l.getD i se0).count) := fun ⟨i, h1, h2⟩ => ⟨i, by omega, h2⟩
    unfold closedTo
    split
    · rename_i hc
      rw [List.mem_append, ih, List.mem_singleton]
      constructor
      · rintro (h | h)
        · exact up h
        · exact ⟨k, by omega, hc, h⟩
      · rintro ⟨i, h1, h2, h3⟩
        by_cases hik : i = k
        · subst hik; exact .inr h3
        · exact .inl ⟨i, by omega, h2, h3⟩
    · rename_i hc
      rw [ih]
      constructor
      · exact up
      · rintro ⟨i, h1, h2, h3⟩
        by_cases hik : i = k
        · subst hik; exact absurd h2 hc
        · exact ⟨i, by omega, h2, h3⟩
/-- Two sessions are the same. -/
def sameS (x y : Se) : Bool := decide (x.start = y.start) && (decide (x.count = y.count) && decide (x.closed = y.closed))
theorem sameS_iff {x y : Se} : sameS x y = true ↔ x = y := by
  obtain ⟨a, b, c⟩ := x
  obtain ⟨d, e, f⟩ := y
  simp [sameS]
/-- Two images read alike over some blocks. -/
def Alike (a b : List ByteArray) (s c : Int) : Prop := ∀ z, s ≤ z → z < s + c → Ex.elem a z = Ex.elem b z
/-- Session i of the elder disc, if it is closed, is session i of the other. -/
def Pairs (a b : List Se) : Prop := ∀ i, i < b.length → (b.getD i se0).closed = true → i < a.length ∧ a.getD i se0 = b.getD i se0
open Classical in
/-- A disc continues another one. -/
noncomputable def contD (a : List ByteArray) (s : List Se) (b : List ByteArray) (t : List Se) : Bool :=
  validD a s && (validD b t && decide (Pairs s t ∧ ∀ x, x ∈ closedL t → Alike a b x.1 x.2))
open Classical in
theorem contD_true {a b : List ByteArray} {s t : List Se} (h1 : validD a s = true) (h2 : validD b t = true) (h3 : Pairs s t) (h4 : ∀ x, x ∈ closedL t → Alike a b x.1 x.2) : contD a s b t = true := by
  unfold contD
  rw [h1, h2, decide_eq_true ⟨h3, h4⟩]
  rfl
open Classical in
theorem contD_pairs {a b : List ByteArray} {s t : List Se} {i : Nat} (hi : i < t.length) (hc : (t.getD i se0).closed = true) (h : ¬ (i < s.length ∧ s.getD i se0 = t.getD i se0)) : contD a s b t = false := by
  unfold contD
  rw [decide_eq_false (fun h3 => h (h3.1 i hi hc))]
  simp
open Classical in
theorem contD_blocks {a b : List ByteArray} {s t : List Se} {x : Int × Int} (hx : x ∈ closedL t) {z : Int} (h1 : x.1 ≤ z) (h2 : z < x.1 + x.2) (h : Ex.elem a z ≠ Ex.elem b z) : contD a s b t = false := by
  unfold contD
  rw [decide_eq_false (fun h3 => h (h3.2 x hx z h1 h2))]
  simp
theorem contD_left {a b : List ByteArray} {s t : List Se} (h : validD a s = false) : contD a s b t = false := by unfold contD; rw [h]; rfl
theorem contD_right {a b : List ByteArray} {s t : List Se} (h : validD b t = false) : contD a s b t = false := by unfold contD; rw [h]; simp
theorem validD_ses {b : List ByteArray} {l : List Se} (h : validD b l = true) : sesOk l = true ∧ l.length ≤ 16 := by
  unfold validD at h
  simp only [Bool.and_eq_true, decide_eq_true_eq] at h
  exact ⟨h.2.2, h.2.1⟩
end Fi
end Go.Proofs.YtiekfipjbmdkpaaGreatDoor
