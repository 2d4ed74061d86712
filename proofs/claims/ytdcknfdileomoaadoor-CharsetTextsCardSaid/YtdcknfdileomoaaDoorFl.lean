/-
  A slice of ints among the arguments, opened as a row.
-/
import Derived.Test.YtdcknfdileomoaaDoorFrame
import Derived.Test.YtdcknfdileomoaaDoorKit
namespace Go.Proofs.YtdcknfdileomoaaDoor
open Go.RowKit
namespace Frame

theorem open_l {H : Type} {enc : TypeId × Value → H} {base : Nat} (W : World) (v : Value) (d : DataW H) (p : List MemPlace) (hval : Value.okWide Tryd.prog W .any base 22 v)
    (h : DataW.Trod enc Tryd.prog W 0 (fun _ => true) true 22 v d p) : ∃ xs : List Int, Kit.Row W v (Kit.izs xs) ∧ ∀ z ∈ xs, (Lit.int .i64 z).wf = true := by
  obtain ⟨a0, len0, cap0, rfl⟩ := Go.WideShapes.okWide_slice Tryd.underlying22 hval
  obtain ⟨fuel, hf⟩ := h
  have hc : Tryd.prog.cellsOf 3 = 1 := by kernel_rfl
  rcases Go.ChangeShapes.open_ints Tryd.underlying22 Tryd.underlying3 hc hf with ⟨hcs, hx⟩ | ⟨a, len, cap, zs, hcs, _, hle, hmax, hall, hx, hcell, hwf⟩
  · simp [Value.cells] at hcs
    obtain ⟨rfl, rfl, rfl⟩ := hcs
    exact ⟨[], ⟨none, 0, rfl, by simp [Kit.izs], by unfold maxLen; omega, fun h => by simp [Kit.izs] at h⟩, by simp⟩
  · simp [Value.cells] at hcs
    obtain ⟨rfl, rfl, rfl⟩ := hcs
    have hall' : zs.length = cap0 := by simpa using hall
    have hlen : (Kit.izs (zs.take len0)).length = len0 := by rw [Kit.izs_length, List.length_take]; omega
    refine ⟨zs.take len0, ⟨some a, cap0, by rw [hlen], by rw [hlen]; exact hle, hmax, fun h0 => ?_⟩, fun z hz => hwf z (List.mem_of_mem_take hz)⟩
    rw [hlen] at h0
    obtain ⟨b, off, rfl, hc'⟩ := ints_at hcell (by omega)
    refine ⟨b, off, rfl, World.block_lt_of_cell? _ _ (hc' 0 (by omega)), fun j u hu => ?_⟩
    have hj : j < len0 := by
      have := (List.getElem?_eq_some_iff.1 hu).1
      omega
    rw [hc' j (by omega), ← hu]
    have hjz : j < zs.length := by omega
    simp [Kit.izs, hj, List.getD, hjz]
end Frame
end Go.Proofs.YtdcknfdileomoaaDoor
