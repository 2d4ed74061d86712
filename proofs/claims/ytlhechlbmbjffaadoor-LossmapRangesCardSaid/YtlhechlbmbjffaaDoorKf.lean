/-
  Plain: the example of the chapter.
-/
import Derived.Test.YtlhechlbmbjffaaDoorKa
import Derived.Test.YtlhechlbmbjffaaDoorJu
import Derived.Test.YtlhechlbmbjffaaDoorJv
namespace Go.Proofs.YtlhechlbmbjffaaDoor
namespace Lm
/-- The example's image, extents. -/
def exI (b : ByteArray) : List ByteArray := ((List.replicate 30 b).set 11 ⟨#[33]⟩).set 20 ⟨#[]⟩
def pA : ByteArray := ⟨#[97]⟩
def exF : List F := [⟨pA, 10, 4096⟩, ⟨pA, 20, 100⟩]
theorem exI_len (b : ByteArray) : (exI b).length = 30 := by simp [exI]
theorem exI_at (b : ByteArray) (j : Nat) (hj : j < 30) : (exI b).getD j ⟨#[]⟩ = if j = 20 then ⟨#[]⟩ else if j = 11 then ⟨#[33]⟩ else b := by
  have h1 : j < (exI b).length := by rw [exI_len]; exact hj
  rw [List.getD_eq_getElem?_getD, List.getElem?_eq_getElem h1]
  simp only [exI, List.getElem_set, List.getElem_replicate, Option.getD_some]
  by_cases h20 : j = 20
  · subst h20; rfl
  · rw [if_neg (fun e => h20 e.symm), if_neg h20]
    by_cases h11 : j = 11
    · subst h11; rfl
    · rw [if_neg (fun e => h11 e.symm), if_neg h11]
theorem exI_valid {b : ByteArray} (h : b.size = 2048) : validI (exI b) = true := by
  unfold validI
  rw [exI_len, Bool.and_eq_true]
  refine ⟨by decide, List.all_eq_true.2 fun x hx => ?_⟩
  obtain ⟨j, hj, rfl⟩ := List.getElem_of_mem hx
  have hj' : j < 30 := by rw [exI_len] at hj; exact hj
  have := exI_at b j hj'
  rw [List.getD_eq_getElem?_getD, List.getElem?_eq_getElem hj, Option.getD_some] at this
  rw [this, okB_cases]
  split
  · exact .inl rfl
  · split
    · exact .inr (.inl rfl)
    · exact .inr (.inr h)
theorem ex_chk {b : ByteArray} (h : b.size = 2048) : chkR (exI b) exF = 0 := by
  unfold chkR
  rw [if_neg (by rw [exI_valid h]; decide), if_neg (by decide), if_pos (by decide)]
theorem ex_pieces {b : ByteArray} (h : b.size = 2048) : piecesR (exI b) exF = [⟨pA, 0, 2048, b, true⟩, ⟨pA, 2048, 2048, ⟨#[]⟩, false⟩, ⟨pA, 4096, 100, ⟨#[]⟩, false⟩] := by
  have r10 : readable (exI b) 10 = true := by
    unfold readable
    rw [exI_len, show (10 : Int).toNat = 10 from rfl, exI_at b 10 (by decide)]
    simp [h]
  have r11 : readable (exI b) 11 = false := by
    unfold readable
    rw [exI_len, show (11 : Int).toNat = 11 from rfl, exI_at b 11 (by decide)]
    simp [ByteArray.size]
  have r20 : readable (exI b) 20 = false := by
    unfold readable
    rw [exI_len, show (20 : Int).toNat = 20 from rfl, exI_at b 20 (by decide)]
    simp [ByteArray.size]
  have e1 : piecesR (exI b) exF = [pieceR (exI b) ⟨pA, 10, 4096⟩ 0 0, pieceR (exI b) ⟨pA, 10, 4096⟩ 0 1, pieceR (exI b) ⟨pA, 20, 100⟩ 4096 0] := rfl
  rw [e1]
  have p0 : pieceR (exI b) ⟨pA, 10, 4096⟩ 0 0 = ⟨pA, 0, 2048, b, true⟩ := by
    have e : pieceR (exI b) ⟨pA, 10, 4096⟩ 0 0 = ⟨pA, 0, 2048, if readable (exI b) 10 = true then ((exI b).getD 10 ⟨#[]⟩).extract 0 2048 else ⟨#[]⟩, readable (exI b) 10⟩ := rfl
    have hx : b.extract 0 2048 = b := by rw [← h]; exact ByteArray.extract_zero_size
    rw [e, r10, if_pos rfl, exI_at b 10 (by decide), if_neg (by decide), if_neg (by decide), hx]
  have p1 : pieceR (exI b) ⟨pA, 10, 4096⟩ 0 1 = ⟨pA, 2048, 2048, ⟨#[]⟩, false⟩ := by
    unfold pieceR
    simp only [show (10 : Int) + ((1 : Nat) : Int) = 11 from rfl, r11]
    rfl
  have p2 : pieceR (exI b) ⟨pA, 20, 100⟩ 4096 0 = ⟨pA, 4096, 100, ⟨#[]⟩, false⟩ := by
    unfold pieceR
    simp only [show (20 : Int) + ((0 : Nat) : Int) = 20 from rfl, r20]
    rfl
  rw [p0, p1, p2]
def exL : List L := [⟨pA, 2048, 2148⟩]
theorem ex_lost {b : ByteArray} (h : b.size = 2048) : lostR (exI b) exF = exL := by
  unfold lostR lossesR
  rw [ex_pieces h]
  rfl
theorem ex_rec {b : ByteArray} (h : b.size = 2048) : recE (exI b) exF pA = 0 ∧ recR (exI b) exF pA = b.data.toList ++ List.replicate 2148 0 := by
  constructor
  · unfold recE
    rw [ex_chk h, if_neg (by decide), if_neg (by decide)]
  · unfold recR
    rw [ex_pieces h]
    have : recB pA [⟨pA, 0, 2048, b, true⟩, ⟨pA, 2048, 2048, ⟨#[]⟩, false⟩, ⟨pA, 4096, 100, ⟨#[]⟩, false⟩] = b.data.toList ++ (List.replicate 2048 0 ++ (List.replicate 100 0 ++ [])) := by
      simp only [recB, List.flatMap_cons, List.flatMap_nil, pieceB, if_true]
      rfl
    rw [this, List.append_nil, List.replicate_append_replicate]
theorem ex_comb {b : ByteArray} (h : b.size = 2048) : combE [exI b, List.replicate 15 b] = 0 ∧ (combR [exI b, List.replicate 15 b]).length = 30 ∧ (combR [exI b, List.replicate 15 b]).getD 11 ⟨#[]⟩ = b ∧ (combR [exI b, List.replicate 15 b]).getD 20 ⟨#[]⟩ = ⟨#[]⟩ := by
  have hv : validI (List.replicate 15 b) = true := by
    unfold validI
    rw [Bool.and_eq_true]
    refine ⟨by simp, List.all_eq_true.2 fun x hx => ?_⟩
    rw [(List.mem_replicate.1 hx).2, okB_cases]
    exact .inr (.inr h)
  have hm : mix ⟨#[33]⟩ b = b := by
    unfold mix
    rw [if_pos ⟨by decide, .inl h⟩]
  refine ⟨?_, ?_⟩
  · unfold combE
    have ha : [exI b, List.replicate 15 b].all validI = true := by rw [List.all_cons, List.all_cons, exI_valid h, hv]; rfl
    rw [if_neg (by rw [ha]; decide), if_neg (by simp)]
  · have e : combR [exI b, List.replicate 15 b] = mergeR (exI b) (List.replicate 15 b) := rfl
    rw [e]
    exact ⟨by rw [mergeR_len, exI_len, List.length_replicate]; rfl, hm, rfl⟩
theorem ex_bytes : bytesR exL = 2148 := rfl
theorem ex_dam : damR [] exL = [pA] := rfl
theorem ex_fmt : fmtR exL = [⟨#[97, 32, 50, 48, 52, 56, 32, 50, 49, 52, 56]⟩] := by
  have : lineR ⟨pA, 2048, 2148⟩ = ⟨#[97, 32, 50, 48, 52, 56, 32, 50, 49, 52, 56]⟩ := by kernel_rfl
  show [lineR ⟨pA, 2048, 2148⟩] = _
  rw [this]
end Lm
end Go.Proofs.YtlhechlbmbjffaaDoor
