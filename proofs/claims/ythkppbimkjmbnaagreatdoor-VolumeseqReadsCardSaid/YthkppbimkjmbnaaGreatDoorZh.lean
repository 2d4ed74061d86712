/-
  The walks through volumeseq.set and FileSet.
-/
import Derived.Test.YthkppbimkjmbnaaGreatDoorZR
import Derived.Test.YthkppbimkjmbnaaGreatDoorZO
import Derived.Laws.IdiomArrays
namespace Go.Proofs.YthkppbimkjmbnaaGreatDoor
open Go.RowKit
open Vs (bs by_)
namespace Vs
end Vs

end Go.Proofs.YthkppbimkjmbnaaGreatDoor

/-
  Structs, slices and an array among the arguments of layer 36's laws, opened: strings, ints, file sets, integrity contents, three bytes.
-/
namespace Go.Proofs.YthkppbimkjmbnaaGreatDoor
open Go.RowKit
namespace Frame
section
variable {H : Type} {enc : TypeId × Value → H} {w : World} {base : Nat} {spare : Nat → Bool} {held : Bool}
/-- The elements of a slice that reads. -/
theorem open_elems {P : Program} {t e : TypeId} {C : Nat} (ht : P.underlying t = some (.slice e)) (hC : P.cellsOf e = C) (h0 : 0 < C) {n : Nat} {c : Value} {y : DataW H × List MemPlace} (h : DataW.trod enc P w base spare held n t [c] = some y) :
    ∃ A len cap, c = .slice A len cap ∧ len ≤ cap ∧ cap ≤ maxLen ∧ (A = none → cap = 0) ∧
      (0 < len → ∃ b o, A = some ⟨b, o, none⟩ ∧ b < w.heap.size ∧ ∀ i, i < len → ∃ cs m x, cs.length = C ∧ (∀ k u, cs[k]? = some u → w.cell? ⟨b, o + i * C + k, none⟩ = some u) ∧ DataW.trod enc P w base spare held m e cs = some x) := by
  rcases Go.Deep.open_slice ht h with ⟨hcs, _⟩ | ⟨a, len, cap, m, n', D, Pl, hcs, _, hle, hmax, hm, _, hall⟩
  · simp only [List.cons.injEq, and_true] at hcs
    exact ⟨none, 0, 0, hcs, Nat.le_refl _, by unfold maxLen; omega, fun _ => rfl, fun h => absurd h (Nat.lt_irrefl 0)⟩
  · simp only [List.cons.injEq, and_true] at hcs
    refine ⟨some a, len, cap, hcs, hle, hmax, (fun h => by cases h), fun hl => ?_⟩
    have hml : len ≤ m := by rw [hm]; split <;> omega
    have hpos : 0 < m := by omega
    have at0 : ∀ i, i < m → ∃ cs x, cs.length = C ∧ (∀ k u, cs[k]? = some u → w.cell? ((a.add (i * C)).add k) = some u) ∧ DataW.trod enc P w base spare held n' e cs = some x := by
      intro i hi
      obtain ⟨cs, hc, ht'⟩ := hall i hi
      rw [hC] at hc
      obtain ⟨_, hcl, hat⟩ := World.cells?_some hc
      refine ⟨cs, _, hcl, fun k u hu => ?_, ht'⟩
      have hk : k < C := by rw [← hcl]; exact (List.getElem?_eq_some_iff.1 hu).1
      rw [hat k hk, hu]
    obtain ⟨b, o, spot⟩ := a
    obtain ⟨cs0, x0, hl0, hc0, _⟩ := at0 0 hpos
    have h00 := hc0 0 (cs0[0]'(by omega)) (List.getElem?_eq_getElem (by omega))
    have hspot : spot = none := by simpa [Addr.add] using World.cell?_spot h00
    subst hspot
    rw [Addr.add_lit, Addr.add_lit] at h00
    refine ⟨b, o, rfl, World.block_lt_of_cell? _ _ h00, fun i hi => ?_⟩
    obtain ⟨cs, x, hcl, hat, ht'⟩ := at0 i (by omega)
    refine ⟨cs, n', x, hcl, fun k u hu => ?_, ht'⟩
    have := hat k u hu
    rwa [Addr.add_lit, Addr.add_lit] at this
/-- A slice of strings that reads. -/
theorem open_strs {n : Nat} {c : Value} {y : DataW H × List MemPlace} (h : DataW.trod enc Tryz.prog w base spare held n 31 [c] = some y) : ∃ l : List ByteArray, Kit.RowS w c (Vs.strs l) := by
  obtain ⟨A, len, cap, rfl, hle, hmax, hnone, hel⟩ := open_elems Tryz.underlying31 (show Tryz.prog.cellsOf 9 = 1 by kernel_rfl) (by decide) h
  by_cases hl : 0 < len
  · obtain ⟨b, o, rfl, hb, hx⟩ := hel hl
    have : Inhabited ByteArray := ⟨⟨#[]⟩⟩
    obtain ⟨f, hf⟩ := Go.Deep.choose_lt (α := ByteArray) (n := len) (p := fun i s => w.cell? ⟨b, o + i, none⟩ = some (.string s)) (fun i hi => by
      obtain ⟨cs, m, x, hcl, hat, ht⟩ := hx i hi
      obtain ⟨c, rfl⟩ : ∃ c, cs = [c] := by
        match cs, hcl with
        | [c], _ => exact ⟨c, rfl⟩
      obtain ⟨s, rfl⟩ := strAt ht
      have := hat 0 _ rfl
      rw [Nat.mul_one] at this
      exact ⟨s, this⟩)
    have hlen : ((List.range len).map f).length = len := by simp
    refine ⟨(List.range len).map f, ⟨some ⟨b, o, none⟩, cap, by rw [Vs.strs_len, hlen], by rw [Vs.strs_len, hlen]; exact hle, hmax, fun _ => ⟨b, o, rfl, hb, fun j u hu => ?_⟩⟩, fun n c h => by cases h⟩
    have hj : j < len := by have := (List.getElem?_eq_some_iff.1 hu).1; rwa [Vs.strs_len, hlen] at this
    rw [hf j hj, ← hu]
    simp [Vs.strs, hj]
  · obtain rfl : len = 0 := by omega
    exact ⟨[], ⟨A, cap, rfl, Nat.zero_le _, hmax, fun h => by simp [Vs.strs] at h⟩, fun n c h => by cases h; exact hnone rfl⟩
end
set_option maxRecDepth 100000 in
/-- A slice of strings. -/
theorem open_strings {H : Type} {enc : TypeId × Value → H} {base : Nat} (W : World) (v : Value) (d : DataW H) (p : List MemPlace) (hval : Value.okWide Tryz.prog W .any base 31 v)
    (h : DataW.Trod enc Tryz.prog W 0 (fun _ => true) true 31 v d p) : ∃ l : List ByteArray, Kit.RowS W v (Vs.strs l) := by
  obtain ⟨a0, len0, cap0, rfl⟩ := Go.WideShapes.okWide_slice Tryz.underlying31 hval
  obtain ⟨fuel, hf⟩ := h
  have hf' : DataW.trod enc Tryz.prog W 0 (fun _ => true) true fuel 31 [.slice a0 len0 cap0] = some (d, p) := hf
  exact open_strs hf'
end Frame
end Go.Proofs.YthkppbimkjmbnaaGreatDoor
