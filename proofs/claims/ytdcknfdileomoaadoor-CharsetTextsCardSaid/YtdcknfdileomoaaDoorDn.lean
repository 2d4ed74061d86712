/-
  What a loop over a text in UCS-2 has read. No program in it.
-/
import Derived.Test.YtdcknfdileomoaaDoorCh
namespace Go.Proofs.YtdcknfdileomoaaDoor
namespace Cs

/-- The numbers of two bytes each up to a place are read, the rest stands behind. -/
structure DoneZ (d : List UInt8) (i : Nat) (ns : List Nat) : Prop where
  le : i ≤ d.length
  ev : (d.length - i) % 2 = 0
  split : units 2 d = ns ++ units 2 (d.drop i)
  all : allChars ns = true
  few : ns.length ≤ i

theorem units_two (d : List UInt8) (i : Nat) (hi : i < d.length) (hev : (d.length - i) % 2 = 0) :
    units 2 (d.drop i) = (byt d i * 256 + byt d (i + 1)) :: units 2 (d.drop (i + 2)) := by
  have e0 : (d[i]'hi).toNat = byt d i := by simp [byt, List.getD, hi]
  have hi1 : i + 1 < d.length := by omega
  have e1 : (d[i + 1]'hi1).toNat = byt d (i + 1) := by simp [byt, List.getD, hi1]
  rw [List.drop_eq_getElem_cons hi, List.drop_eq_getElem_cons hi1, ← e0, ← e1]
  simp [units]

theorem DoneZ.start {d : List UInt8} (hev : d.length % 2 = 0) : DoneZ d 0 [] := ⟨by omega, by omega, rfl, rfl, by simp⟩
theorem DoneZ.step {d : List UInt8} {i u : Nat} {ns : List Nat} (h : DoneZ d i ns) (hi : i < d.length) (hu : byt d i * 256 + byt d (i + 1) = u) (hc : isChar (u : Int) = true) : DoneZ d (i + 2) (ns ++ [u]) := by
  have hu' := units_two d i hi h.ev
  rw [hu] at hu'
  have hev := h.ev
  have hle := h.le
  have hfew := h.few
  refine ⟨by omega, by omega, ?_, ?_, ?_⟩
  · rw [h.split, hu']; simp
  · have := h.all
    unfold allChars at this ⊢
    rw [List.all_append, this]
    simp [hc]
  · rw [List.length_append, List.length_singleton]
    omega
theorem DoneZ.fail {d : List UInt8} {i u : Nat} {ns : List Nat} (h : DoneZ d i ns) (hi : i < d.length) (hu : byt d i * 256 + byt d (i + 1) = u) (hc : isChar (u : Int) = false) : allChars (units 2 d) = false := by
  rw [h.split, units_two d i hi h.ev, hu]
  unfold allChars
  rw [List.all_append]
  simp [hc]
theorem DoneZ.done {d : List UInt8} {ns : List Nat} (h : DoneZ d d.length ns) : units 2 d = ns := by
  rw [h.split]
  simp [units]

theorem fromR_long {l : List UInt8} (h : 65536 < l.length) : fromR l = ([], 7) := if_pos h
theorem fromR_odd {l : List UInt8} (h : ¬ 65536 < l.length) (h2 : l.length % 2 = 1) : fromR l = ([], 3) := by
  unfold fromR
  rw [if_neg h, if_pos h2]
theorem fromR_ok {l : List UInt8} {ns : List Nat} (h : ¬ 65536 < l.length) (h2 : ¬ l.length % 2 = 1) (hd : DoneZ l l.length ns) : fromR l = (text ns, 0) := by
  unfold fromR
  rw [if_neg h, if_neg h2, hd.done, if_pos hd.all]
theorem fromR_no {l : List UInt8} (h : ¬ 65536 < l.length) (h2 : ¬ l.length % 2 = 1) (hd : allChars (units 2 l) = false) : fromR l = ([], 2) := by
  unfold fromR
  rw [if_neg h, if_neg h2, if_neg (by rw [hd]; simp)]
end Cs
end Go.Proofs.YtdcknfdileomoaaDoor
