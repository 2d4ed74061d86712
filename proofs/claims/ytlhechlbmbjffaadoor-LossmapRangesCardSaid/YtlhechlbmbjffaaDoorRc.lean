/-
  Plain laws of the reference: its paths, the losses of one path.
-/
import Derived.Test.YtlhechlbmbjffaaDoorJx
namespace Go.Proofs.YtlhechlbmbjffaaDoor
namespace Lm
/-- The reference's paths, of the extents ahead of j. -/
def pathsR (fs : List F) (j : Nat) : List ByteArray := (List.range j).flatMap fun i => if firstAt fs i = true then [(fs.getD i f0).path] else []
theorem pathsR_succ (fs : List F) (j : Nat) : pathsR fs (j + 1) = pathsR fs j ++ if firstAt fs j = true then [(fs.getD j f0).path] else [] := by
  unfold pathsR
  rw [List.range_succ, List.flatMap_append]
  simp
theorem hasR_app (a b : List ByteArray) (x : ByteArray) : hasR (a ++ b) x = (hasR a x || hasR b x) := by simp [hasR]
theorem take_all_succ {fs : List F} {j : Nat} (hj : j < fs.length) (q : ByteArray) : (fs.take (j + 1)).all (isN q) = ((fs.take j).all (isN q) && isN q (fs.getD j f0)) := by
  rw [List.take_succ_eq_append_getElem hj, List.all_append]
  simp [List.getD, hj]
theorem isN_yes {q : ByteArray} {f : F} (h : f.path = q) : isN q f = false := by
  unfold isN
  rw [decide_eq_true h]
  rfl
theorem isN_no {q : ByteArray} {f : F} (h : ¬ f.path = q) : isN q f = true := by
  unfold isN
  rw [decide_eq_false h]
  rfl
theorem hasR_one (p q : ByteArray) : hasR [p] q = decide (p = q) := by simp [hasR]
theorem pathsR_has {fs : List F} : ∀ j, j ≤ fs.length → ∀ q, hasR (pathsR fs j) q = !(fs.take j).all (isN q) := by
  intro j
  induction j with
  | zero => intro _ q; simp [pathsR, hasR]
  | succ j ih =>
    intro hj q
    have hih := ih (by omega)
    rw [pathsR_succ, hasR_app, take_all_succ (by omega), hih q]
    by_cases hq : (fs.getD j f0).path = q
    · have h1 : isN q (fs.getD j f0) = false := isN_yes hq
      rw [h1, Bool.and_false, Bool.not_false]
      by_cases hf : firstAt fs j = true
      · rw [if_pos hf, hasR_one, decide_eq_true hq, Bool.or_true]
      · have hf' : (fs.take j).all (isN (fs.getD j f0).path) = false := by
          unfold firstAt at hf
          simpa using hf
        rw [hq] at hf'
        rw [hf']
        rfl
    · have h1 : isN q (fs.getD j f0) = true := isN_no hq
      rw [h1, Bool.and_true]
      have h2 : hasR (if firstAt fs j = true then [(fs.getD j f0).path] else []) q = false := by
        split
        · rw [hasR_one, decide_eq_false hq]
        · rfl
      rw [h2, Bool.or_false]
theorem pathsR_first {fs : List F} {j : Nat} (hj : j < fs.length) : hasR (pathsR fs j) (fs.getD j f0).path = !firstAt fs j := pathsR_has j (by omega) _
theorem pathsR_len (fs : List F) (j : Nat) : (pathsR fs j).length ≤ j := by
  induction j with
  | zero => simp [pathsR]
  | succ j ih =>
    rw [pathsR_succ, List.length_append]
    split
    · simp; omega
    · simp; omega
theorem outR_paths (M : ByteArray → List L) (fs : List F) (j : Nat) : outR M fs j = (pathsR fs j).flatMap M := by
  induction j with
  | zero => rfl
  | succ j ih =>
    rw [outR_succ, pathsR_succ, List.flatMap_append, ih]
    congr 1
    split
    · simp
    · rfl
theorem flat_take {α β : Type} (M : α → List β) (l : List α) (d : α) {k : Nat} (hk : k < l.length) : (l.take (k + 1)).flatMap M = (l.take k).flatMap M ++ M (l.getD k d) := by
  rw [List.take_succ_eq_append_getElem hk, List.flatMap_append]
  simp [List.getD, hk]
theorem flat_len {α β : Type} (M : α → List β) {K : Nat} (h : ∀ a, (M a).length ≤ K) (l : List α) (k : Nat) : ((l.take k).flatMap M).length ≤ K * k := by
  induction k with
  | zero => simp
  | succ k ih =>
    by_cases hk : k < l.length
    · rw [flat_take M l l[k] hk, List.length_append, Nat.mul_succ]
      have := h (l.getD k l[k])
      omega
    · rw [List.take_of_length_le (by omega), ← List.take_of_length_le (l := l) (i := k) (by omega), Nat.mul_succ]
      omega
theorem lossM_app (a b : List P) : ∀ s, lossM s (a ++ b) = lossM (lossM s a) b := by
  induction a with
  | nil => intro s; rfl
  | cons p t ih =>
    intro s
    simp only [List.cons_append, lossM]
    split
    · exact ih _
    · exact ih _
theorem lossM_skip (q : ByteArray) : ∀ (ps : List P) (s : ByteArray → List L), (∀ p ∈ ps, p.path ≠ q) → lossM s ps q = s q
  | [], _, _ => rfl
  | p :: t, s, h => by
    have h1 := h p (by simp)
    have h2 := fun s => lossM_skip q t s (fun y hy => h y (by simp [hy]))
    simp only [lossM]
    split
    · exact h2 _
    · rw [h2]
      exact if_neg (fun e => h1 e.symm)
/-- The losses of a path, of the extents ahead of j; with i pieces of extent j. -/
def curR (img : List ByteArray) (fs : List F) (q : ByteArray) (j : Nat) : List L := lossM (fun _ => []) (upTo img fs j) q
def offAt (fs : List F) (j : Nat) : Int := offR (fs.take j) (fs.getD j f0).path
def piecesI (img : List ByteArray) (fs : List F) (j i : Nat) : List P := upTo img fs j ++ (List.range i).map (pieceR img (fs.getD j f0) (offAt fs j))
def curI (img : List ByteArray) (fs : List F) (j i : Nat) : List L := lossM (fun _ => []) (piecesI img fs j i) (fs.getD j f0).path
theorem curR_zero (img : List ByteArray) (fs : List F) (q : ByteArray) : curR img fs q 0 = [] := rfl
theorem curR_all (img : List ByteArray) (fs : List F) (q : ByteArray) : curR img fs q fs.length = lossesR img fs q := rfl
theorem curR_skip {img : List ByteArray} {fs : List F} {q : ByteArray} {j : Nat} (h : (fs.getD j f0).path ≠ q) : curR img fs q (j + 1) = curR img fs q j := by
  unfold curR
  rw [upTo_succ, lossM_app]
  exact lossM_skip q _ _ (fun p hp => by
    unfold fileP at hp
    obtain ⟨i, _, rfl⟩ := List.mem_map.1 hp
    exact h)
theorem curI_zero {img : List ByteArray} {fs : List F} {q : ByteArray} {j : Nat} (h : (fs.getD j f0).path = q) : curI img fs j 0 = curR img fs q j := by
  unfold curI curR piecesI
  rw [h, List.range_zero, List.map_nil, List.append_nil]
theorem curI_succ (img : List ByteArray) (fs : List F) (j i : Nat) : curI img fs j (i + 1) = if readable img ((fs.getD j f0).start + i) = true then curI img fs j i else addL (curI img fs j i) (pieceR img (fs.getD j f0) (offAt fs j) i) := by
  unfold curI piecesI
  rw [map_range_succ, ← List.append_assoc, lossM_snoc]
  have e : (pieceR img (fs.getD j f0) (offAt fs j) i).ok = readable img ((fs.getD j f0).start + i) := rfl
  rw [e]
  split
  · rfl
  · exact if_pos rfl
theorem curI_end {img : List ByteArray} {fs : List F} {q : ByteArray} {j i : Nat} (h : (fs.getD j f0).path = q) (hi : (i : Int) = blk (fs.getD j f0).len) : curI img fs j i = curR img fs q (j + 1) := by
  unfold curI curR piecesI
  rw [upTo_succ, h]
  unfold fileP
  rw [← hi, Int.toNat_natCast]
  rfl
theorem piece_ok {img : List ByteArray} {fs : List F} (h : fs.all okF = true) (hl : fs.length ≤ 1024) {j : Nat} (hj : j < fs.length) (hp : (fs.getD j f0).path.size ≤ 500) {i : Nat} (hi : (i : Int) < blk (fs.getD j f0).len) : okP (pieceR img (fs.getD j f0) (offAt fs j) i) = true := by
  have hf := (okF_iff _).1 (all_get (d := f0) h hj)
  have ho := offR_bd h j (fs.getD j f0).path
  have hb := (blk_iff hf.2.2.1 i).1 hi
  have ho1 : 0 ≤ offAt fs j := ho.1
  have ho2 : offAt fs j ≤ 262144 * j := ho.2
  rw [okP_iff]
  refine ⟨hp, ?_, ?_, ?_, ?_, ?_⟩
  · show 0 ≤ offAt fs j + i * 2048
    omega
  · show offAt fs j + i * 2048 ≤ _
    omega
  · show 1 ≤ min 2048 ((fs.getD j f0).len - i * 2048)
    omega
  · show min 2048 ((fs.getD j f0).len - i * 2048) ≤ 2048
    omega
  · show (if _ then _ else _ : ByteArray).size ≤ 2048
    split
    · rw [ByteArray.size_extract]
      omega
    · show (0 : Nat) ≤ 2048
      omega
theorem upTo_ok {img : List ByteArray} {fs : List F} (h : fs.all okF = true) (hl : fs.length ≤ 1024) (hp : ∀ j, j < fs.length → (fs.getD j f0).path.size ≤ 500) : ∀ j, j ≤ fs.length → (upTo img fs j).all okP = true ∧ (upTo img fs j).length ≤ 4096 * j := by
  intro j
  induction j with
  | zero => intro _; simp [upTo]
  | succ j ih =>
    intro hj
    obtain ⟨h1, h2⟩ := ih (by omega)
    have hf := (okF_iff _).1 (all_get (d := f0) h (show j < fs.length by omega))
    have h3 : (fileP img fs j).length ≤ 4096 := by
      unfold fileP
      rw [List.length_map, List.length_range]
      omega
    rw [upTo_succ, List.all_append, h1, Bool.true_and, List.length_append, Nat.mul_succ]
    refine ⟨?_, by omega⟩
    rw [List.all_eq_true]
    intro p hpm
    unfold fileP at hpm
    obtain ⟨i, hi, rfl⟩ := List.mem_map.1 hpm
    rw [List.mem_range] at hi
    exact piece_ok h hl (by omega) (hp j (by omega)) (by omega)
theorem curR_ok {img : List ByteArray} {fs : List F} (h : fs.all okF = true) (hl : fs.length ≤ 1024) (hp : ∀ j, j < fs.length → (fs.getD j f0).path.size ≤ 500) (q : ByteArray) (j : Nat) (hj : j ≤ fs.length) : (curR img fs q j).all okL = true ∧ (curR img fs q j).length ≤ 4194304 := by
  obtain ⟨h1, h2⟩ := upTo_ok (img := img) h hl hp j hj
  have h3 := lossM_ok (upTo img fs j) (fun _ => []) (fun _ => rfl) h1 q
  refine ⟨h3.1, ?_⟩
  have := h3.2
  simp only [List.length_nil] at this
  unfold curR
  omega
theorem curI_ok {img : List ByteArray} {fs : List F} (h : fs.all okF = true) (hl : fs.length ≤ 1024) (hp : ∀ j, j < fs.length → (fs.getD j f0).path.size ≤ 500) {j : Nat} (hj : j < fs.length) {i : Nat} (hi : (i : Int) ≤ blk (fs.getD j f0).len) : (curI img fs j i).all okL = true ∧ (curI img fs j i).length ≤ 8388608 := by
  obtain ⟨h1, h2⟩ := upTo_ok (img := img) h hl hp j (by omega)
  have hf := (okF_iff _).1 (all_get (d := f0) h hj)
  have ha : (piecesI img fs j i).all okP = true := by
    unfold piecesI
    rw [List.all_append, h1, Bool.true_and, List.all_eq_true]
    intro p hpm
    obtain ⟨k, hk, rfl⟩ := List.mem_map.1 hpm
    rw [List.mem_range] at hk
    exact piece_ok h hl hj (hp j hj) (by omega)
  have h3 := lossM_ok (piecesI img fs j i) (fun _ => []) (fun _ => rfl) ha (fs.getD j f0).path
  have h4 : (piecesI img fs j i).length ≤ 4096 * j + i := by
    unfold piecesI
    rw [List.length_append, List.length_map, List.length_range]
    omega
  refine ⟨h3.1, ?_⟩
  have := h3.2
  simp only [List.length_nil] at this
  unfold curI
  omega
theorem blk_nat {n : Int} (h : 0 ≤ n) : ∃ N : Nat, (N : Int) = blk n := by
  refine ⟨(blk n).toNat, ?_⟩
  have : 0 ≤ blk n := by
    unfold blk
    omega
  omega
theorem min_next {ln i mm : Int} (h : min 2048 (ln - i * 2048) = mm) (hi : i * 2048 < ln) : min (i * 2048) ln + mm = min ((i + 1) * 2048) ln := by omega
end Lm
end Go.Proofs.YtlhechlbmbjffaaDoor
