/-
  Plain: images with further blocks unreadable; what more is lost.
-/
import Derived.Test.YtlhechlbmbjffaaDoorKp
namespace Go.Proofs.YtlhechlbmbjffaaDoor
namespace Lm
/-- Further blocks unreadable. -/
def dmg (img : List ByteArray) (ds : List Nat) : List ByteArray := ds.foldl (fun b d => b.set (d % b.length) ⟨#[33]⟩) img
theorem dmg_snoc (img : List ByteArray) (ds : List Nat) (d : Nat) : dmg img (ds ++ [d]) = (dmg img ds).set (d % (dmg img ds).length) ⟨#[33]⟩ := by simp [dmg]
theorem dmg_len (ds : List Nat) : ∀ img, (dmg img ds).length = img.length := by
  induction ds with
  | nil => intro _; rfl
  | cons d t ih =>
    intro img
    show (dmg (img.set _ _) t).length = _
    rw [ih, List.length_set]
/-- b is a, some blocks made unreadable. -/
structure Worse (a b : List ByteArray) : Prop where
  len : b.length = a.length
  at' : ∀ j, b.getD j ⟨#[]⟩ = a.getD j ⟨#[]⟩ ∨ b.getD j ⟨#[]⟩ = ⟨#[33]⟩
theorem Worse.set {a b : List ByteArray} (h : Worse a b) (i : Nat) : Worse a (b.set i ⟨#[33]⟩) := by
  refine ⟨by rw [List.length_set]; exact h.len, fun j => ?_⟩
  rw [List.getD_eq_getElem?_getD, List.getElem?_set]
  by_cases hij : i = j
  · subst hij
    by_cases hl : i < b.length
    · rw [if_pos rfl, if_pos hl]; exact .inr rfl
    · rw [if_pos rfl, if_neg hl]
      have := h.at' i
      rw [List.getD_eq_getElem?_getD, List.getElem?_eq_none (by omega)] at this
      exact this
  · rw [if_neg hij]
    have := h.at' j
    rw [List.getD_eq_getElem?_getD] at this
    exact this
theorem dmg_worse (img : List ByteArray) : ∀ ds b, Worse img b → Worse img (dmg b ds) := by
  intro ds
  induction ds with
  | nil => intro b h; exact h
  | cons d t ih => intro b h; exact ih _ (h.set _)
theorem Worse.refl (a : List ByteArray) : Worse a a := ⟨rfl, fun _ => .inl rfl⟩
theorem Worse.readable {a b : List ByteArray} (h : Worse a b) (k : Int) (hr : readable b k = true) : readable a k = true := by
  unfold Lm.readable at hr ⊢
  simp only [Bool.and_eq_true, decide_eq_true_eq] at hr ⊢
  rcases h.at' k.toNat with e | e
  · rw [e, h.len] at hr
    exact hr
  · rw [e] at hr
    exact absurd hr.2 (by decide)
theorem Worse.valid {a b : List ByteArray} (h : Worse a b) (hv : validI a = true) : validI b = true := by
  unfold validI at hv ⊢
  rw [Bool.and_eq_true, List.all_eq_true] at hv ⊢
  refine ⟨by rw [h.len]; exact hv.1, fun x hx => ?_⟩
  obtain ⟨j, hj, rfl⟩ := List.getElem_of_mem hx
  have hja : j < a.length := by rw [← h.len]; exact hj
  have := h.at' j
  rw [List.getD_eq_getElem?_getD, List.getD_eq_getElem?_getD, List.getElem?_eq_getElem hj, List.getElem?_eq_getElem hja] at this
  simp only [Option.getD_some] at this
  rcases this with e | e
  · rw [e]; exact hv.2 _ (List.getElem_mem hja)
  · rw [e]; decide
theorem Worse.chk {a b : List ByteArray} {fs : List F} (h : Worse a b) (hc : chkR a fs = 0) : chkR b fs = 0 := by
  obtain ⟨_, h50, hall⟩ := chkR_zero hc
  have hv : validI a = true := by
    unfold chkR at hc
    split at hc
    · cases hc
    · rename_i h'; simpa using h'
  unfold chkR
  rw [if_neg (by rw [h.valid hv]; decide), if_neg (by omega), if_pos hall]
/-- What is lost on the left is lost on the right. -/
structure Imp (A B : List Bool) : Prop where
  len : A.length = B.length
  at' : ∀ k, A.getD k false = true → B.getD k false = true
  cnt : A.count true ≤ B.count true
theorem Imp.nil : Imp [] [] := ⟨rfl, fun _ h => h, Nat.le_refl _⟩
theorem Imp.app {A B C D : List Bool} (h : Imp A B) (h' : Imp C D) : Imp (A ++ C) (B ++ D) := by
  refine ⟨by rw [List.length_append, List.length_append, h.len, h'.len], fun k hk => ?_, by rw [List.count_append, List.count_append]; exact Nat.add_le_add h.cnt h'.cnt⟩
  rcases Nat.lt_or_ge k A.length with h1 | h1
  · rw [getD_left h1] at hk
    rw [getD_left (by rw [← h.len]; exact h1)]
    exact h.at' k hk
  · rw [List.getD_eq_getElem?_getD, List.getElem?_append_right h1, ← List.getD_eq_getElem?_getD] at hk
    rw [List.getD_eq_getElem?_getD, List.getElem?_append_right (by rw [← h.len]; exact h1), ← List.getD_eq_getElem?_getD, ← h.len]
    exact h'.at' _ hk
theorem Imp.rep (n : Nat) (a b : Bool) (h : a = true → b = true) : Imp (List.replicate n a) (List.replicate n b) := by
  refine ⟨by simp, fun k hk => ?_, ?_⟩
  · rw [List.getD_eq_getElem?_getD, List.getElem?_replicate] at hk ⊢
    split at hk
    · rename_i hkn
      rw [if_pos hkn]
      exact h hk
    · cases hk
  · cases a with
    | true => rw [h rfl]; exact Nat.le_refl _
    | false => rw [List.count_replicate]; simp
theorem Imp.flat {α : Type} (f g : α → List Bool) (l : List α) (h : ∀ x, Imp (f x) (g x)) : Imp (l.flatMap f) (l.flatMap g) := by
  induction l with
  | nil => exact Imp.nil
  | cons x t ih => exact (h x).app ih
theorem less_bits {a b : List ByteArray} (h : ∀ k, readable b k = true → readable a k = true) (fs : List F) (q : ByteArray) : Imp (bits q (piecesR a fs)) (bits q (piecesR b fs)) := by
  have e : ∀ img, bits q (piecesR img fs) = (List.range fs.length).flatMap fun j => ((List.range (blk (fs.getD j f0).len).toNat).flatMap fun i => bitsB q (pieceR img (fs.getD j f0) (offR (fs.take j) (fs.getD j f0).path) i)) := fun img => by
    unfold bits piecesR upTo fileP
    rw [List.flatMap_assoc]
    congr 1
    funext j
    rw [List.flatMap_map]
  rw [e, e]
  refine Imp.flat _ _ _ fun j => Imp.flat _ _ _ fun i => ?_
  unfold bitsB
  by_cases hq : (fs.getD j f0).path = q
  · rw [if_pos (show (pieceR a (fs.getD j f0) (offR (fs.take j) (fs.getD j f0).path) i).path = q from hq), if_pos (show (pieceR b (fs.getD j f0) (offR (fs.take j) (fs.getD j f0).path) i).path = q from hq)]
    refine Imp.rep _ _ _ fun hn => ?_
    have hn' : (!readable a ((fs.getD j f0).start + (i : Int))) = true := hn
    have h1 : readable a ((fs.getD j f0).start + (i : Int)) = false := by simpa using hn'
    show (!readable b ((fs.getD j f0).start + (i : Int))) = true
    cases h2 : readable b ((fs.getD j f0).start + (i : Int)) with
    | false => rfl
    | true => rw [h _ h2] at h1; cases h1
  · rw [if_neg (show ¬ (pieceR a (fs.getD j f0) (offR (fs.take j) (fs.getD j f0).path) i).path = q from hq), if_neg (show ¬ (pieceR b (fs.getD j f0) (offR (fs.take j) (fs.getD j f0).path) i).path = q from hq)]
    exact Imp.nil
theorem worse_bits {a b : List ByteArray} (h : Worse a b) (fs : List F) (q : ByteArray) : Imp (bits q (piecesR a fs)) (bits q (piecesR b fs)) := less_bits h.readable fs q
/-- The sum of the losses of a path. -/
theorem bytesR_app (a b : List L) : bytesR (a ++ b) = bytesR a + bytesR b := by simp [bytesR]
theorem bytesR_one (x : L) : bytesR [x] = max x.len 0 := by simp [bytesR]
theorem bytes_addL {l : List L} {p : P} (hl : ∀ x ∈ l, 1 ≤ x.len) (hp : 1 ≤ p.len) : bytesR (addL l p) = bytesR l + p.len := by
  rcases List.eq_nil_or_concat l with rfl | ⟨l', x, rfl⟩
  · rw [addL_nil, bytesR_one]
    show max p.len 0 = bytesR [] + p.len
    have : bytesR [] = 0 := rfl
    omega
  · rw [List.concat_eq_append] at *
    rw [addL_snoc]
    have hx := hl x (by simp)
    split
    · rw [bytesR_app, bytesR_app, bytesR_one, bytesR_one]
      show bytesR l' + max (x.len + p.len) 0 = bytesR l' + max x.len 0 + p.len
      omega
    · rw [bytesR_app, bytesR_one]
      show bytesR (l' ++ [x]) + max p.len 0 = bytesR (l' ++ [x]) + p.len
      omega
theorem bytes_all (q : ByteArray) : ∀ (n : Nat) (ps : List P), ps.length = n → Consec ps → bytesR (lossM (fun _ => []) ps q) = ((bits q ps).count true : Int) := by
  intro n
  induction n with
  | zero =>
    intro ps hn _
    obtain rfl : ps = [] := List.eq_nil_of_length_eq_zero hn
    rfl
  | succ n ih =>
    intro ps hn hc
    rcases List.eq_nil_or_concat ps with rfl | ⟨a, p, rfl⟩
    · simp at hn
    · rw [List.concat_eq_append] at *
      have ha := ih a (by simpa using hn) hc.left
      have hf := fit_all q a.length a rfl hc.left
      obtain ⟨_, hl⟩ := hc a p [] rfl
      rw [lossM_snoc, bits_snoc, List.count_append]
      unfold bitsB
      by_cases hp : p.path = q
      · rw [if_pos hp]
        cases hok : p.ok with
        | true =>
          rw [if_pos rfl, ha, List.count_replicate]
          simp
        | false =>
          rw [if_neg (by decide)]
          unfold upd
          rw [if_pos hp.symm, hp, bytes_addL (fun x hx => (hf.neat.each x hx).2.1) hl, ha, List.count_replicate]
          simp only [Bool.not_false, beq_self_eq_true, if_true, Int.natCast_add]
          omega
      · rw [if_neg hp, List.count_nil, Nat.add_zero]
        split
        · exact ha
        · unfold upd
          rw [if_neg (fun e => hp e.symm)]
          exact ha
theorem lost_bytes {img : List ByteArray} {fs : List F} (h : fs.all okF = true) : bytesR (lostR img fs) = (((List.range fs.length).map fun j => if firstAt fs j = true then (bits (fs.getD j f0).path (piecesR img fs)).count true else 0).sum : Nat) := by
  have hb := fun q => bytes_all q _ _ rfl (pieces_consec (img := img) h fs.length (Nat.le_refl _)).1
  have key : ∀ i, bytesR (outR (lossesR img fs) fs i) = (((List.range i).map fun j => if firstAt fs j = true then (bits (fs.getD j f0).path (piecesR img fs)).count true else 0).sum : Nat) := by
    intro i
    induction i with
    | zero => rfl
    | succ i ih =>
      rw [outR_succ, bytesR_app, ih, List.range_succ, List.map_append, List.sum_append, Int.natCast_add]
      congr 1
      split
      · rename_i hfi
        rw [show lossesR img fs (fs.getD i f0).path = lossM (fun _ => []) (upTo img fs fs.length) (fs.getD i f0).path from rfl, hb]
        simp [hfi, piecesR]
      · rename_i hfi
        simp [hfi, bytesR]
  exact key fs.length
theorem less_bytes {a b : List ByteArray} {fs : List F} (h : ∀ k, readable b k = true → readable a k = true) (hall : fs.all okF = true) : bytesR (lostR a fs) ≤ bytesR (lostR b fs) := by
  rw [lost_bytes hall, lost_bytes hall]
  have : ∀ n, ((List.range n).map fun j => if firstAt fs j = true then (bits (fs.getD j f0).path (piecesR a fs)).count true else 0).sum ≤ ((List.range n).map fun j => if firstAt fs j = true then (bits (fs.getD j f0).path (piecesR b fs)).count true else 0).sum := by
    intro n
    induction n with
    | zero => simp
    | succ n ih =>
      rw [List.range_succ, List.map_append, List.map_append, List.sum_append, List.sum_append]
      refine Nat.add_le_add ih ?_
      simp only [List.map_cons, List.map_nil, List.sum_cons, List.sum_nil, Nat.add_zero]
      split
      · exact (less_bits h fs _).cnt
      · exact Nat.le_refl _
  exact Int.ofNat_le.2 (this _)
theorem worse_bytes {a b : List ByteArray} {fs : List F} (h : Worse a b) (hall : fs.all okF = true) : bytesR (lostR a fs) ≤ bytesR (lostR b fs) := less_bytes h.readable hall
/-- The losses of any path in Lost's result are neat, and say what is lost. -/
theorem lost_fit {img : List ByteArray} {fs : List F} (hall : fs.all okF = true) (q : ByteArray) : Fit (bits q (piecesR img fs)) (ofP q (lostR img fs)) ∧ ((bits q (piecesR img fs)).length : Int) = offR fs q := by
  have hc := pieces_consec (img := img) hall fs.length (Nat.le_refl _)
  have hf := fit_all q _ _ rfl hc.1
  have hl := hc.2 q
  rw [List.take_length] at hl
  refine ⟨?_, hl⟩
  by_cases hn : fs.all (isN q) = true
  · have h0 : offR fs q = 0 := by
      unfold offR
      have : fs.filter (fun f => decide (f.path = q)) = [] := by
        rw [List.filter_eq_nil_iff]
        intro f hf
        have := List.all_eq_true.1 hn f hf
        unfold isN at this
        simpa using this
      rw [this]
      rfl
    have hb : bits q (piecesR img fs) = [] := List.eq_nil_of_length_eq_zero (by have : ((bits q (piecesR img fs)).length : Int) = 0 := hl.trans h0; omega)
    have ho : ofP q (lostR img fs) = [] := by
      unfold ofP
      rw [List.filter_eq_nil_iff]
      intro x hx
      unfold lostR outR at hx
      obtain ⟨j, hj, hx⟩ := List.mem_flatMap.1 hx
      rw [List.mem_range] at hj
      split at hx
      · have e := losses_path img fs _ x hx
        rw [e]
        have := all_get (d := f0) hn hj
        unfold isN at this
        simpa using this
      · cases hx
    rw [hb, ho]
    exact ⟨neat_nil _, fun k hk => by cases hk⟩
  · rw [ofP_lost (by simpa using hn)]
    exact hf
end Lm
end Go.Proofs.YtlhechlbmbjffaaDoor
