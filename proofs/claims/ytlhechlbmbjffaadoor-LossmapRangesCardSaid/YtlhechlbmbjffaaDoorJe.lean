/-
  Plain laws of pieces.
-/
import Derived.Test.YtlhechlbmbjffaaDoorJa
namespace Go.Proofs.YtlhechlbmbjffaaDoor
namespace Lm
theorem upTo_succ (img : List ByteArray) (fs : List F) (j : Nat) : upTo img fs (j + 1) = upTo img fs j ++ fileP img fs j := by
  unfold upTo
  rw [List.range_succ, List.flatMap_append]
  simp
theorem offR_nil (p : ByteArray) : offR [] p = 0 := rfl
theorem offR_snoc {fs : List F} {j : Nat} (h : j < fs.length) (p : ByteArray) : offR (fs.take (j + 1)) p = offR (fs.take j) p + if p = (fs.getD j f0).path then (fs.getD j f0).len else 0 := by
  unfold offR
  rw [List.take_succ_eq_append_getElem h, List.filter_append, List.map_append, List.sum_append]
  have e : fs.getD j f0 = fs[j] := by simp [List.getD, h]
  rw [e]
  by_cases hp : fs[j].path = p
  · rw [if_pos hp.symm]
    simp [hp]
  · rw [if_neg (fun h => hp h.symm)]
    simp [hp]
theorem offR_bd {fs : List F} (h : fs.all okF = true) (j : Nat) (p : ByteArray) : 0 ≤ offR (fs.take j) p ∧ offR (fs.take j) p ≤ 262144 * j := by
  induction j with
  | zero => exact ⟨Int.le_refl _, by simp [offR]⟩
  | succ j ih =>
    by_cases hj : j < fs.length
    · rw [offR_snoc hj]
      have hf := (okF_iff _).1 (all_get (d := f0) h hj)
      split <;> omega
    · rw [List.take_of_length_le (by omega), ← List.take_of_length_le (l := fs) (i := j) (by omega)]
      omega
theorem map_range_succ {α : Type} (g : Nat → α) (n : Nat) : (List.range (n + 1)).map g = (List.range n).map g ++ [g n] := by
  rw [List.range_succ, List.map_append]
  rfl
theorem blk_iff {n : Int} (_h0 : 0 ≤ n) (i : Nat) : (i : Int) < blk n ↔ (i : Int) * 2048 < n := by unfold blk; omega
theorem blk_end {n : Int} (_h0 : 0 ≤ n) (i : Nat) (h : (i : Int) = blk n) : min ((i : Int) * 2048) n = n := by unfold blk at h; omega
/-- What a piece's numbers are. -/
def okP (p : P) : Bool := decide (p.path.size ≤ 500) && (decide (0 ≤ p.off) && (decide (p.off ≤ 1073741824) && (decide (1 ≤ p.len) && (decide (p.len ≤ 2048) && decide (p.data.size ≤ 2048)))))
theorem okP_iff (p : P) : okP p = true ↔ p.path.size ≤ 500 ∧ 0 ≤ p.off ∧ p.off ≤ 1073741824 ∧ 1 ≤ p.len ∧ p.len ≤ 2048 ∧ p.data.size ≤ 2048 := by simp [okP]
end Lm
end Go.Proofs.YtlhechlbmbjffaaDoor
