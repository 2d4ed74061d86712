/-
  Plain: the bytes of a path, file by file.
-/
import Derived.Test.YtlhechlbmbjffaaDoorKo
namespace Go.Proofs.YtlhechlbmbjffaaDoor
namespace Lm
/-- A byte of a file, as it is recovered. -/
def byteAt (img : List ByteArray) (f : F) (k : Nat) : UInt8 := if readable img (f.start + ((k / 2048 : Nat) : Int)) = true then (img.getD (f.start + ((k / 2048 : Nat) : Int)).toNat ⟨#[]⟩).data.toList.getD (k % 2048) 0 else 0
def lostAt (img : List ByteArray) (f : F) (k : Nat) : Bool := !readable img (f.start + ((k / 2048 : Nat) : Int))
theorem file_flat {α : Type} {img : List ByteArray} {f : F} {o : Int} (h : P → List α) (g : Nat → α) (hf : 0 ≤ f.len) (hh : ∀ i : Nat, (i : Int) < blk f.len → h (pieceR img f o i) = (List.range (min 2048 (f.len.toNat - i * 2048))).map (fun r => g (i * 2048 + r))) :
    ((List.range (blk f.len).toNat).map (pieceR img f o)).flatMap h = (List.range f.len.toNat).map g := by
  have hb : 0 ≤ blk f.len := by unfold blk; omega
  rw [List.flatMap_map, ← range_blocks g f.len.toNat (blk f.len).toNat (by rw [Int.toNat_of_nonneg hf]; omega)]
  rw [List.flatMap_def, List.flatMap_def]
  congr 1
  refine List.map_congr_left fun i hi => ?_
  rw [List.mem_range] at hi
  exact hh i (by omega)
theorem at_block {i r m n : Nat} (h : r < min 2048 (n - m)) : (i * 2048 + r) / 2048 = i ∧ (i * 2048 + r) % 2048 = r := by omega
theorem bits_piece {img : List ByteArray} {f : F} {o : Int} (hf : 0 ≤ f.len) (i : Nat) (hi : (i : Int) < blk f.len) : bitsB f.path (pieceR img f o i) = (List.range (min 2048 (f.len.toNat - i * 2048))).map (fun r => lostAt img f (i * 2048 + r)) := by
  have hlt := (blk_iff hf i).1 hi
  have hn : ((f.len.toNat : Nat) : Int) = f.len := Int.toNat_of_nonneg hf
  unfold bitsB
  rw [if_pos (show (pieceR img f o i).path = f.path from rfl)]
  have hl : (pieceR img f o i).len.toNat = min 2048 (f.len.toNat - i * 2048) := by
    show (min 2048 (f.len - (i : Int) * 2048)).toNat = _
    omega
  rw [hl]
  apply List.ext_getElem?
  intro r
  by_cases hr : r < min 2048 (f.len.toNat - i * 2048)
  · rw [List.getElem?_replicate, if_pos hr, List.getElem?_map, List.getElem?_range hr, Option.map_some]
    unfold lostAt
    rw [(at_block hr).1]
    rfl
  · rw [List.getElem?_eq_none (by simpa using Nat.not_lt.1 hr), List.getElem?_eq_none (by simpa using Nat.not_lt.1 hr)]
theorem rec_piece {img : List ByteArray} {f : F} {o : Int} (hf : 0 ≤ f.len) (i : Nat) (hi : (i : Int) < blk f.len) : pieceB f.path (pieceR img f o i) = (List.range (min 2048 (f.len.toNat - i * 2048))).map (fun r => byteAt img f (i * 2048 + r)) := by
  have hlt := (blk_iff hf i).1 hi
  have hn : ((f.len.toNat : Nat) : Int) = f.len := Int.toNat_of_nonneg hf
  unfold pieceB
  rw [if_pos (show (pieceR img f o i).path = f.path from rfl)]
  have hl : (min 2048 (f.len - (i : Int) * 2048)).toNat = min 2048 (f.len.toNat - i * 2048) := by omega
  apply List.ext_getElem?
  intro r
  cases hok : readable img (f.start + (i : Int)) with
  | true =>
    have hsz : (img.getD (f.start + (i : Int)).toNat ⟨#[]⟩).size = 2048 := by
      unfold readable at hok
      simp only [Bool.and_eq_true, decide_eq_true_eq] at hok
      exact hok.2
    have hd : (pieceR img f o i).data = (img.getD (f.start + (i : Int)).toNat ⟨#[]⟩).extract 0 (min 2048 (f.len.toNat - i * 2048)) := by
      show (if readable img (f.start + i) = true then (img.getD (f.start + i).toNat ⟨#[]⟩).extract 0 (min 2048 (f.len - i * 2048)).toNat else ⟨#[]⟩) = _
      rw [if_pos hok, hl]
    rw [if_pos (show (pieceR img f o i).ok = true from hok), hd, Lib.extract_data]
    by_cases hr : r < min 2048 (f.len.toNat - i * 2048)
    · have hr2 : r < (img.getD (f.start + (i : Int)).toNat ⟨#[]⟩).data.toList.length := by
        rw [Array.length_toList]
        show r < (img.getD (f.start + (i : Int)).toNat ⟨#[]⟩).size
        omega
      rw [List.getElem?_map, List.getElem?_range hr, Option.map_some]
      unfold byteAt
      rw [(at_block hr).1, (at_block hr).2, if_pos hok]
      simp only [List.drop_zero, Nat.sub_zero, List.getElem?_take, if_pos hr]
      generalize (img.getD (f.start + (i : Int)).toNat ⟨#[]⟩).data.toList = B at *
      rw [List.getElem?_eq_getElem hr2, List.getD_eq_getElem?_getD, List.getElem?_eq_getElem hr2]
      rfl
    · rw [List.getElem?_eq_none (by simp; omega), List.getElem?_eq_none (by simpa using Nat.not_lt.1 hr)]
  | false =>
    rw [if_neg (show ¬ (pieceR img f o i).ok = true from fun e => by have e' : readable img (f.start + (i : Int)) = true := e; rw [hok] at e'; cases e')]
    have hl2 : (pieceR img f o i).len.toNat = min 2048 (f.len.toNat - i * 2048) := hl
    rw [hl2]
    by_cases hr : r < min 2048 (f.len.toNat - i * 2048)
    · rw [List.getElem?_replicate, if_pos hr, List.getElem?_map, List.getElem?_range hr, Option.map_some]
      unfold byteAt
      rw [(at_block hr).1, if_neg (by rw [hok]; decide)]
    · rw [List.getElem?_eq_none (by simpa using Nat.not_lt.1 hr), List.getElem?_eq_none (by simpa using Nat.not_lt.1 hr)]
theorem bits_file {img : List ByteArray} {fs : List F} {j : Nat} (q : ByteArray) (hf : 0 ≤ (fs.getD j f0).len) : bits q (fileP img fs j) = if (fs.getD j f0).path = q then (List.range (fs.getD j f0).len.toNat).map (lostAt img (fs.getD j f0)) else [] := by
  unfold bits fileP
  generalize fs.getD j f0 = f at *
  by_cases hq : f.path = q
  · subst hq
    rw [if_pos rfl]
    exact file_flat _ _ hf (fun i hi => bits_piece hf i hi)
  · rw [if_neg hq, List.flatMap_eq_nil_iff]
    intro p hp
    obtain ⟨i, _, rfl⟩ := List.mem_map.1 hp
    unfold bitsB
    rw [if_neg (show ¬ (pieceR img f _ i).path = q from hq)]
theorem rec_file {img : List ByteArray} {fs : List F} {j : Nat} (q : ByteArray) (hf : 0 ≤ (fs.getD j f0).len) : recB q (fileP img fs j) = if (fs.getD j f0).path = q then (List.range (fs.getD j f0).len.toNat).map (byteAt img (fs.getD j f0)) else [] := by
  unfold recB fileP
  generalize fs.getD j f0 = f at *
  by_cases hq : f.path = q
  · subst hq
    rw [if_pos rfl]
    exact file_flat _ _ hf (fun i hi => rec_piece hf i hi)
  · rw [if_neg hq, List.flatMap_eq_nil_iff]
    intro p hp
    obtain ⟨i, _, rfl⟩ := List.mem_map.1 hp
    unfold pieceB
    rw [if_neg (show ¬ (pieceR img f _ i).path = q from hq)]
theorem recB_app (q : ByteArray) (a b : List P) : recB q (a ++ b) = recB q a ++ recB q b := by simp [recB]
/-- Where a file's bytes begin among those of a path. -/
def base (img : List ByteArray) (fs : List F) (q : ByteArray) (j : Nat) : Nat := (bits q (upTo img fs j)).length
theorem base_zero (img : List ByteArray) (fs : List F) (q : ByteArray) : base img fs q 0 = 0 := rfl
theorem base_succ {img : List ByteArray} {fs : List F} (h : fs.all okF = true) (q : ByteArray) {j : Nat} (hj : j < fs.length) : base img fs q (j + 1) = base img fs q j + if (fs.getD j f0).path = q then (fs.getD j f0).len.toNat else 0 := by
  have hf := (okF_iff _).1 (all_get (d := f0) h hj)
  unfold base
  rw [upTo_succ, bits_app, List.length_append, bits_file q hf.2.2.1]
  congr 1
  split <;> simp
theorem rec_base {img : List ByteArray} {fs : List F} (h : fs.all okF = true) (q : ByteArray) : ∀ j, j ≤ fs.length → (recB q (upTo img fs j)).length = base img fs q j := by
  intro j
  induction j with
  | zero => intro _; rfl
  | succ j ih =>
    intro hj
    have hf := (okF_iff _).1 (all_get (d := f0) h (show j < fs.length by omega))
    rw [base_succ h q (by omega), upTo_succ, recB_app, List.length_append, ih (by omega), rec_file q hf.2.2.1]
    congr 1
    split <;> simp
theorem upTo_pfx {img : List ByteArray} {fs : List F} {j : Nat} (hj : j < fs.length) : ∃ r, piecesR img fs = upTo img fs j ++ (fileP img fs j ++ r) := by
  unfold piecesR upTo
  obtain ⟨d, hd⟩ : ∃ d, fs.length = (j + 1) + d := ⟨fs.length - (j + 1), by omega⟩
  rw [hd, show List.range (j + 1 + d) = List.range (j + 1) ++ (List.range d).map (j + 1 + ·) from List.range_add .., List.flatMap_append, List.range_succ, List.flatMap_append]
  exact ⟨List.flatMap (fileP img fs) (List.map (fun x => j + 1 + x) (List.range d)), by rw [List.flatMap_cons, List.flatMap_nil, List.append_nil, List.append_assoc]⟩
theorem mid_at {α : Type} (A B C : List α) (k : Nat) (hk : k < B.length) (d : α) : (A ++ (B ++ C)).getD (A.length + k) d = B.getD k d := by
  rw [List.getD_eq_getElem?_getD, List.getElem?_append_right (by omega), show A.length + k - A.length = k by omega, List.getElem?_append_left hk, ← List.getD_eq_getElem?_getD]
/-- A byte of a path, and whether it is lost. -/
theorem at_file {img : List ByteArray} {fs : List F} (h : fs.all okF = true) {j : Nat} (hj : j < fs.length) {k : Nat} (hk : k < (fs.getD j f0).len.toNat) {q : ByteArray} (hq : (fs.getD j f0).path = q) :
    base img fs q j + k < base img fs q fs.length ∧ (bits q (piecesR img fs)).getD (base img fs q j + k) false = lostAt img (fs.getD j f0) k ∧ (recR img fs q).getD (base img fs q j + k) 0 = byteAt img (fs.getD j f0) k := by
  have hf := (okF_iff _).1 (all_get (d := f0) h hj)
  obtain ⟨r, hr⟩ := upTo_pfx (img := img) hj
  have hb := bits_file (img := img) (j := j) q hf.2.2.1
  have hc := rec_file (img := img) (j := j) q hf.2.2.1
  rw [if_pos hq] at hb hc
  refine ⟨?_, ?_, ?_⟩
  · have e : base img fs q fs.length = (bits q (piecesR img fs)).length := rfl
    rw [e, hr, bits_app, bits_app, hb, List.length_append, List.length_append, List.length_map, List.length_range]
    unfold base
    omega
  · rw [hr, bits_app, bits_app, hb]
    unfold base
    rw [mid_at _ _ _ _ (by simpa using hk), List.getD_eq_getElem?_getD, List.getElem?_map, List.getElem?_range hk]
    rfl
  · unfold recR
    rw [hr, recB_app, recB_app, hc, ← rec_base h q j (by omega), mid_at _ _ _ _ (by simpa using hk), List.getD_eq_getElem?_getD, List.getElem?_map, List.getElem?_range hk]
    rfl
/-- The losses of a path in Lost's result are the path's. -/
theorem lossM_path : ∀ (ps : List P) (s : ByteArray → List L), (∀ q, ∀ x ∈ s q, x.path = q) → ∀ q, ∀ x ∈ lossM s ps q, x.path = q
  | [], _, hs, q, x, hx => hs q x hx
  | p :: t, s, hs, q, x, hx => by
    simp only [lossM] at hx
    split at hx
    · exact lossM_path t s hs q x hx
    · refine lossM_path t _ (fun q' y hy => ?_) q x hx
      by_cases hq : q' = p.path
      · simp only [if_pos hq] at hy
        subst hq
        rcases List.eq_nil_or_concat (s p.path) with e | ⟨l', z, e⟩
        · rw [e, addL_nil] at hy
          rw [List.mem_singleton.1 hy]
        · rw [e, List.concat_eq_append, addL_snoc] at hy
          have hz : z.path = p.path := hs p.path z (by rw [e]; simp)
          have hl : ∀ w ∈ l', w.path = p.path := fun w hw => hs p.path w (by rw [e]; simp [hw])
          split at hy
          · rcases List.mem_append.1 hy with hy | hy
            · exact hl y hy
            · rw [List.mem_singleton.1 hy]; exact hz
          · rcases List.mem_append.1 hy with hy | hy
            · rcases List.mem_append.1 hy with hy | hy
              · exact hl y hy
              · rw [List.mem_singleton.1 hy]; exact hz
            · rw [List.mem_singleton.1 hy]
      · simp only [if_neg hq] at hy
        exact hs q' y hy
theorem losses_path (img : List ByteArray) (fs : List F) (q : ByteArray) : ∀ x ∈ lossesR img fs q, x.path = q := lossM_path _ _ (fun _ x hx => by cases hx) q
theorem ofP_other {l : List L} {p q : ByteArray} (h : ∀ x ∈ l, x.path = q) (hn : q ≠ p) : ofP p l = [] := by
  unfold ofP
  rw [List.filter_eq_nil_iff]
  intro x hx
  rw [h x hx]
  simpa using hn
theorem ofP_same {l : List L} {p : ByteArray} (h : ∀ x ∈ l, x.path = p) : ofP p l = l := by
  unfold ofP
  rw [List.filter_eq_self]
  intro x hx
  simpa using h x hx
/-- Lost's losses of a path. -/
theorem ofP_lost {img : List ByteArray} {fs : List F} {q : ByteArray} (h : fs.all (isN q) = false) : ofP q (lostR img fs) = lossesR img fs q := by
  have key : ∀ i, i ≤ fs.length → ofP q (outR (lossesR img fs) fs i) = if (fs.take i).all (isN q) = true then [] else lossesR img fs q := by
    intro i
    induction i with
    | zero => intro _; simp [outR, ofP]
    | succ i ih =>
      intro hi
      have hlt : i < fs.length := by omega
      have e : ofP q (outR (lossesR img fs) fs (i + 1)) = ofP q (outR (lossesR img fs) fs i) ++ ofP q (if firstAt fs i = true then lossesR img fs (fs.getD i f0).path else []) := by
        rw [outR_succ]
        simp [ofP]
      have et : (fs.take (i + 1)).all (isN q) = ((fs.take i).all (isN q) && isN q (fs.getD i f0)) := by
        rw [List.take_succ_eq_append_getElem hlt, List.all_append]
        simp [List.getD, hlt]
      rw [e, ih (by omega), et]
      by_cases hp : (fs.getD i f0).path = q
      · have hn : isN q (fs.getD i f0) = false := by unfold isN; rw [decide_eq_true hp]; rfl
        have hfa : firstAt fs i = (fs.take i).all (isN q) := by unfold firstAt; rw [hp]
        by_cases hall : (fs.take i).all (isN q) = true
        · rw [if_pos hall, hfa, if_pos hall, hp, List.nil_append, ofP_same (losses_path img fs q), hn, Bool.and_false, if_neg Bool.false_ne_true]
        · rw [if_neg hall, hfa, if_neg hall, hn, Bool.and_false, if_neg Bool.false_ne_true]
          simp [ofP]
      · have hn : isN q (fs.getD i f0) = true := by unfold isN; rw [decide_eq_false hp]; rfl
        rw [hn, Bool.and_true]
        have : ofP q (if firstAt fs i = true then lossesR img fs (fs.getD i f0).path else []) = [] := by
          split
          · exact ofP_other (losses_path img fs _) hp
          · rfl
        rw [this, List.append_nil]
  unfold lostR
  rw [key fs.length (Nat.le_refl _), List.take_length, if_neg (by rw [h]; decide)]
end Lm
end Go.Proofs.YtlhechlbmbjffaaDoor
