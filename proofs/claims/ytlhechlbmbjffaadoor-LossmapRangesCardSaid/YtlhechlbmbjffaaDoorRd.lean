/-
  Plain laws of the reference: the bytes of one path.
-/
import Derived.Test.YtlhechlbmbjffaaDoorRc
import Derived.Test.YtlhechlbmbjffaaDoorJq
import Derived.Test.YtlhechlbmbjffaaDoorKa
namespace Go.Proofs.YtlhechlbmbjffaaDoor
namespace Lm
theorem recB_app (q : ByteArray) (a b : List P) : recB q (a ++ b) = recB q a ++ recB q b := by simp [recB]
/-- The bytes of a path, of the extents ahead of j; with i pieces of extent j. -/
def bytR (img : List ByteArray) (fs : List F) (q : ByteArray) (j : Nat) : List UInt8 := recB q (upTo img fs j)
def bytI (img : List ByteArray) (fs : List F) (j i : Nat) : List UInt8 := recB (fs.getD j f0).path (piecesI img fs j i)
theorem bytR_zero (img : List ByteArray) (fs : List F) (q : ByteArray) : bytR img fs q 0 = [] := rfl
theorem bytR_all (img : List ByteArray) (fs : List F) (q : ByteArray) : bytR img fs q fs.length = recR img fs q := rfl
theorem bytR_skip {img : List ByteArray} {fs : List F} {q : ByteArray} {j : Nat} (h : (fs.getD j f0).path ≠ q) : bytR img fs q (j + 1) = bytR img fs q j := by
  unfold bytR
  rw [upTo_succ, recB_app]
  have : recB q (fileP img fs j) = [] := by
    unfold recB
    rw [List.flatMap_eq_nil_iff]
    intro p hp
    unfold fileP at hp
    obtain ⟨i, _, rfl⟩ := List.mem_map.1 hp
    exact if_neg h
  rw [this, List.append_nil]
theorem bytI_zero {img : List ByteArray} {fs : List F} {q : ByteArray} {j : Nat} (h : (fs.getD j f0).path = q) : bytI img fs j 0 = bytR img fs q j := by
  unfold bytI bytR piecesI
  rw [h, List.range_zero, List.map_nil, List.append_nil]
theorem bytI_succ (img : List ByteArray) (fs : List F) (j i : Nat) : bytI img fs j (i + 1) = bytI img fs j i ++ pieceB (fs.getD j f0).path (pieceR img (fs.getD j f0) (offAt fs j) i) := by
  unfold bytI piecesI
  rw [map_range_succ, ← List.append_assoc, recB_snoc]
theorem bytI_end {img : List ByteArray} {fs : List F} {q : ByteArray} {j i : Nat} (h : (fs.getD j f0).path = q) (hi : (i : Int) = blk (fs.getD j f0).len) : bytI img fs j i = bytR img fs q (j + 1) := by
  unfold bytI bytR piecesI
  rw [upTo_succ, h]
  unfold fileP
  rw [← hi, Int.toNat_natCast]
  rfl
theorem bytI_len {img : List ByteArray} {fs : List F} (h : fs.all okF = true) (hl : fs.length ≤ 1024) (hp : ∀ j, j < fs.length → (fs.getD j f0).path.size ≤ 500) {j : Nat} (hj : j < fs.length) {i : Nat} (hi : (i : Int) ≤ blk (fs.getD j f0).len) : (bytI img fs j i).length ≤ 17179869184 := by
  obtain ⟨h1, h2⟩ := upTo_ok (img := img) h hl hp j (by omega)
  have hf := (okF_iff _).1 (all_get (d := f0) h hj)
  have ha : (piecesI img fs j i).all okP = true := by
    unfold piecesI
    rw [List.all_append, h1, Bool.true_and, List.all_eq_true]
    intro p hpm
    obtain ⟨k, hk, rfl⟩ := List.mem_map.1 hpm
    rw [List.mem_range] at hk
    exact piece_ok h hl hj (hp j hj) (by omega)
  have h4 : (piecesI img fs j i).length ≤ 4096 * j + i := by
    unfold piecesI
    rw [List.length_append, List.length_map, List.length_range]
    omega
  have h3 := recB_len (path := (fs.getD j f0).path) (piecesI img fs j i) ha
  unfold bytI
  omega
theorem pieceB_yes {img : List ByteArray} {f : F} {o : Int} {i b : Nat} {m : Nat} (hb : f.start + (i : Int) = (b : Int)) (hm : min 2048 (f.len - (i : Int) * 2048) = (m : Int)) (h : readable img (b : Int) = true) : pieceB f.path (pieceR img f o i) = ((img.getD b ⟨#[]⟩).extract 0 m).data.toList := by
  unfold pieceB
  rw [if_pos (show (pieceR img f o i).path = f.path from rfl)]
  have e : (pieceR img f o i).ok = true := by
    show readable img (f.start + i) = true
    rw [hb]
    exact h
  rw [if_pos e]
  show (if readable img (f.start + i) = true then (img.getD (f.start + i).toNat ⟨#[]⟩).extract 0 (min 2048 (f.len - i * 2048)).toNat else ⟨#[]⟩ : ByteArray).data.toList = _
  rw [hb, if_pos h, hm, Int.toNat_natCast, Int.toNat_natCast]
theorem pieceB_no {img : List ByteArray} {f : F} {o : Int} {i b : Nat} {m : Nat} (hb : f.start + (i : Int) = (b : Int)) (hm : min 2048 (f.len - (i : Int) * 2048) = (m : Int)) (h : readable img (b : Int) = false) : pieceB f.path (pieceR img f o i) = List.replicate m 0 := by
  unfold pieceB
  rw [if_pos (show (pieceR img f o i).path = f.path from rfl)]
  have e : (pieceR img f o i).ok = false := by
    show readable img (f.start + i) = false
    rw [hb]
    exact h
  rw [if_neg (by rw [e]; decide)]
  show List.replicate (min 2048 (f.len - i * 2048)).toNat 0 = _
  rw [hm, Int.toNat_natCast]
theorem readable_yes {img : List ByteArray} {b : Nat} (h : readable img (b : Int) = true) : b < img.length ∧ (img.getD b ⟨#[]⟩).size = 2048 := by
  unfold readable at h
  rw [Bool.and_eq_true] at h
  have h1 := of_decide_eq_true h.1
  have h2 := of_decide_eq_true h.2
  rw [Int.toNat_natCast] at h2
  exact ⟨by omega, h2⟩
theorem zs_ext (m : Nat) (h : m ≤ 2048) : ((zs 2048).extract 0 m).data.toList = List.replicate m 0 := by
  unfold zs
  rw [ByteArray.data_extract, Array.toList_extract, List.extract_eq_take_drop, List.drop_zero, Nat.sub_zero, List.take_replicate, Nat.min_eq_left h]
theorem cat_mk (l : List UInt8) (s : ByteArray) : (⟨l.toArray⟩ : ByteArray) ++ s = ⟨(l ++ s.data.toList).toArray⟩ := by
  apply ByteArray.ext
  simp [ByteArray.data_append]
end Lm
end Go.Proofs.YtlhechlbmbjffaaDoor
