/-
  Plain laws: the losses of a path are neat, and tell which of its bytes could not be read; its bytes file by file.
-/
import Derived.Test.YtlhechlbmbjffaaDoorKh
import Derived.Test.YtlhechlbmbjffaaDoorKa
namespace Go.Proofs.YtlhechlbmbjffaaDoor
namespace Lm
/-- Which bytes of a path are lost, piece by piece. -/
def bitsB (q : ByteArray) (p : P) : List Bool := if p.path = q then List.replicate p.len.toNat (!p.ok) else []
def bits (q : ByteArray) (ps : List P) : List Bool := ps.flatMap (bitsB q)
theorem bits_snoc (q : ByteArray) (ps : List P) (p : P) : bits q (ps ++ [p]) = bits q ps ++ bitsB q p := by simp [bits]
theorem neat_nil (n : Nat) : Neat n [] := ⟨by simp, List.Pairwise.nil⟩
theorem Neat.mono {n m : Nat} {l : List L} (h : Neat n l) (hm : n ≤ m) : Neat m l := ⟨fun x hx => by have := h.each x hx; omega, h.apart⟩
/-- The losses fit the pieces. -/
structure Fit (B : List Bool) (l : List L) : Prop where
  neat : Neat B.length l
  says : ∀ k, k < B.length → l.any (fun x => holds x k) = B.getD k false
theorem Fit.over {B : List Bool} {l : List L} (h : Fit B l) {k : Nat} (hk : B.length ≤ k) : l.any (fun x => holds x k) = false := by
  rw [Bool.eq_false_iff]
  intro ht
  obtain ⟨x, hx, hh⟩ := List.any_eq_true.1 ht
  have := h.neat.each x hx
  unfold holds at hh
  simp only [Bool.and_eq_true, decide_eq_true_eq] at hh
  omega
theorem getD_left {B C : List Bool} {k : Nat} (h : k < B.length) : (B ++ C).getD k false = B.getD k false := by simp [List.getD, List.getElem?_append_left h]
theorem getD_rep {B : List Bool} {k m : Nat} {b : Bool} (h : B.length ≤ k) (h2 : k < B.length + m) : (B ++ List.replicate m b).getD k false = b := by
  rw [List.getD_eq_getElem?_getD, List.getElem?_append_right h, List.getElem?_replicate, if_pos (by omega)]
  rfl
theorem Fit.good {B : List Bool} {l : List L} (h : Fit B l) (m : Nat) : Fit (B ++ List.replicate m false) l := by
  refine ⟨h.neat.mono (by simp), fun k hk => ?_⟩
  rw [List.length_append, List.length_replicate] at hk
  rcases Nat.lt_or_ge k B.length with h1 | h1
  · rw [h.says k h1, getD_left h1]
  · rw [h.over h1, getD_rep h1 hk]
theorem Fit.bad {B : List Bool} {l : List L} (h : Fit B l) (p : P) (hl : 1 ≤ p.len) (ho : p.off = B.length) : Fit (B ++ List.replicate p.len.toNat true) (addL l p) := by
  have hlen : (B ++ List.replicate p.len.toNat true).length = B.length + p.len.toNat := by rw [List.length_append, List.length_replicate]
  have push : Fit (B ++ List.replicate p.len.toNat true) (l ++ [⟨p.path, p.off, p.len⟩]) := by
    refine ⟨⟨fun x hx => ?_, ?_⟩, fun k hk => ?_⟩
    · rw [hlen]
      rcases List.mem_append.1 hx with hx | hx
      · have := h.neat.each x hx
        omega
      · rw [List.mem_singleton.1 hx]
        show 0 ≤ p.off ∧ 1 ≤ p.len ∧ p.off + p.len ≤ _
        omega
    · refine List.pairwise_append.2 ⟨h.neat.apart, List.pairwise_singleton _ _, fun x hx y hy => ?_⟩
      rw [List.mem_singleton.1 hy]
      have := h.neat.each x hx
      show x.off + x.len ≤ p.off
      omega
    · rw [hlen] at hk
      rw [List.any_append, List.any_cons, List.any_nil, Bool.or_false]
      unfold holds at *
      rcases Nat.lt_or_ge k B.length with h1 | h1
      · have h2 := h.says k h1
        unfold holds at h2
        rw [h2, getD_left h1, decide_eq_false (show ¬ p.off ≤ (k : Int) by omega), Bool.false_and, Bool.or_false]
      · rw [getD_rep h1 hk, decide_eq_true (show p.off ≤ (k : Int) by omega), decide_eq_true (show (k : Int) < p.off + p.len by omega), Bool.and_self, Bool.or_true]
  rcases List.eq_nil_or_concat l with rfl | ⟨l', x, rfl⟩
  · exact push
  · rw [List.concat_eq_append] at *
    rw [addL_snoc]
    split
    · rename_i he
      have hx := h.neat.each x (by simp)
      have hpw := List.pairwise_append.1 h.neat.apart
      refine ⟨⟨fun y hy => ?_, List.pairwise_append.2 ⟨hpw.1, List.pairwise_singleton _ _, fun y hy z hz => ?_⟩⟩, fun k hk => ?_⟩
      · rw [hlen]
        rcases List.mem_append.1 hy with hy | hy
        · have := h.neat.each y (List.mem_append_left _ hy)
          omega
        · rw [List.mem_singleton.1 hy]
          show 0 ≤ x.off ∧ 1 ≤ x.len + p.len ∧ x.off + (x.len + p.len) ≤ _
          omega
      · rw [List.mem_singleton.1 hz]
        exact hpw.2.2 y hy x (by simp)
      · rw [hlen] at hk
        rw [List.any_append, List.any_cons, List.any_nil, Bool.or_false]
        rcases Nat.lt_or_ge k B.length with h1 | h1
        · have h2 := h.says k h1
          rw [List.any_append, List.any_cons, List.any_nil, Bool.or_false] at h2
          rw [getD_left h1, ← h2]
          congr 1
          unfold holds
          show (decide (x.off ≤ (k : Int)) && decide ((k : Int) < x.off + (x.len + p.len))) = _
          congr 1
          rw [decide_eq_true (show (k : Int) < x.off + (x.len + p.len) by omega), decide_eq_true (show (k : Int) < x.off + x.len by omega)]
        · rw [getD_rep h1 hk]
          have : holds ⟨x.path, x.off, x.len + p.len⟩ k = true := by
            unfold holds
            show (decide (x.off ≤ (k : Int)) && decide ((k : Int) < x.off + (x.len + p.len))) = true
            rw [decide_eq_true (show x.off ≤ (k : Int) by omega), decide_eq_true (show (k : Int) < x.off + (x.len + p.len) by omega), Bool.and_self]
          rw [this, Bool.or_true]
    · exact push
/-- Each piece begins where the pieces of its path ahead of it end. -/
def Consec (ps : List P) : Prop := ∀ (pre : List P) (p : P) (suf : List P), ps = pre ++ p :: suf → p.off = ((bits p.path pre).length : Int) ∧ 1 ≤ p.len
theorem Consec.nil : Consec [] := fun pre p suf h => by cases pre <;> cases h
theorem Consec.left {a b : List P} (h : Consec (a ++ b)) : Consec a := fun pre p suf e => h pre p (suf ++ b) (by rw [e]; simp)
theorem Consec.snoc {ps : List P} {p : P} (h : Consec ps) (ho : p.off = (bits p.path ps).length) (hl : 1 ≤ p.len) : Consec (ps ++ [p]) := fun pre q suf e => by
  rcases List.eq_nil_or_concat suf with rfl | ⟨s, z, rfl⟩
  · have e2 : ps ++ [p] = pre ++ [q] := e
    obtain ⟨rfl, e3⟩ := List.append_inj' e2 rfl
    cases e3
    exact ⟨ho, hl⟩
  · rw [List.concat_eq_append] at e
    have e2 : ps ++ [p] = (pre ++ q :: s) ++ [z] := by rw [e]; simp
    obtain ⟨e3, _⟩ := List.append_inj' e2 rfl
    exact h pre q s e3
theorem fit_all (q : ByteArray) : ∀ (n : Nat) (ps : List P), ps.length = n → Consec ps → Fit (bits q ps) (lossM (fun _ => []) ps q) := by
  intro n
  induction n with
  | zero =>
    intro ps hn _
    obtain rfl : ps = [] := List.eq_nil_of_length_eq_zero hn
    exact ⟨neat_nil _, fun k hk => by simp [bits] at hk⟩
  | succ n ih =>
    intro ps hn hc
    rcases List.eq_nil_or_concat ps with rfl | ⟨a, p, rfl⟩
    · simp at hn
    · rw [List.concat_eq_append] at *
      have ha := ih a (by simpa using hn) hc.left
      obtain ⟨ho, hl⟩ := hc a p [] rfl
      rw [lossM_snoc, bits_snoc]
      unfold bitsB
      by_cases hp : p.path = q
      · rw [if_pos hp]
        cases hok : p.ok with
        | true =>
          rw [if_pos rfl]
          exact ha.good _
        | false =>
          rw [if_neg (by decide)]
          unfold upd
          rw [if_pos hp.symm, hp]
          exact ha.bad p hl (hp ▸ ho)
      · rw [if_neg hp, List.append_nil]
        split
        · exact ha
        · unfold upd
          rw [if_neg (fun e => hp e.symm)]
          exact ha
theorem bits_app (q : ByteArray) (a b : List P) : bits q (a ++ b) = bits q a ++ bits q b := by simp [bits]
theorem pieces_consec {img : List ByteArray} {fs : List F} (h : fs.all okF = true) : ∀ j, j ≤ fs.length → Consec (upTo img fs j) ∧ ∀ q, ((bits q (upTo img fs j)).length : Int) = offR (fs.take j) q := by
  intro j
  induction j with
  | zero => exact fun _ => ⟨Consec.nil, fun q => rfl⟩
  | succ j ih =>
    intro hj
    obtain ⟨hc, hb⟩ := ih (by omega)
    have hf := (okF_iff _).1 (all_get (d := f0) h (show j < fs.length by omega))
    have hs := offR_snoc (show j < fs.length by omega)
    rw [upTo_succ]
    unfold fileP
    generalize fs.getD j f0 = f at *
    have key : ∀ i : Nat, (i : Int) ≤ blk f.len → Consec (upTo img fs j ++ (List.range i).map (pieceR img f (offR (fs.take j) f.path))) ∧ ∀ q, ((bits q (upTo img fs j ++ (List.range i).map (pieceR img f (offR (fs.take j) f.path)))).length : Int) = offR (fs.take j) q + if q = f.path then min ((i : Int) * 2048) f.len else 0 := by
      intro i
      induction i with
      | zero =>
        intro _
        refine ⟨by simpa using hc, fun q => ?_⟩
        rw [List.range_zero, List.map_nil, List.append_nil, hb q]
        split <;> omega
      | succ i ihi =>
        intro hi
        obtain ⟨hci, hbi⟩ := ihi (by omega)
        have hlt := (blk_iff hf.2.2.1 i).1 (by omega)
        rw [map_range_succ, ← List.append_assoc]
        have hoff : (pieceR img f (offR (fs.take j) f.path) i).off = ((bits (pieceR img f (offR (fs.take j) f.path) i).path (upTo img fs j ++ (List.range i).map (pieceR img f (offR (fs.take j) f.path)))).length : Int) := by
          rw [hbi]
          show offR (fs.take j) f.path + (i : Int) * 2048 = offR (fs.take j) f.path + if f.path = f.path then min ((i : Int) * 2048) f.len else 0
          rw [if_pos rfl]
          omega
        have hlen : (pieceR img f (offR (fs.take j) f.path) i).len = min 2048 (f.len - (i : Int) * 2048) := rfl
        refine ⟨hci.snoc hoff (by rw [hlen]; omega), fun q => ?_⟩
        rw [bits_snoc, List.length_append, Int.natCast_add, hbi q]
        unfold bitsB
        by_cases hq : f.path = q
        · rw [if_pos (show (pieceR img f (offR (fs.take j) f.path) i).path = q from hq), List.length_replicate, hlen, if_pos hq.symm, if_pos hq.symm]
          omega
        · rw [if_neg (show ¬ (pieceR img f (offR (fs.take j) f.path) i).path = q from hq), if_neg (fun e => hq e.symm), if_neg (fun e => hq e.symm)]
          simp
    have hb0 : 0 ≤ blk f.len := by unfold blk; omega
    obtain ⟨h1, h2⟩ := key (blk f.len).toNat (by omega)
    refine ⟨h1, fun q => ?_⟩
    rw [h2 q, hs q]
    congr 1
    split
    · have : ((blk f.len).toNat : Int) = blk f.len := by omega
      exact blk_end hf.2.2.1 _ this
    · rfl
/-- The bytes of a file are its blocks'. -/
theorem range_blocks {α : Type} (g : Nat → α) (n N : Nat) (hN : (N : Int) = blk n) : (List.range N).flatMap (fun i => (List.range (min 2048 (n - i * 2048))).map (fun r => g (i * 2048 + r))) = (List.range n).map g := by
  have key : ∀ i : Nat, i ≤ N → (List.range i).flatMap (fun i => (List.range (min 2048 (n - i * 2048))).map (fun r => g (i * 2048 + r))) = (List.range (min (i * 2048) n)).map g := by
    intro i
    induction i with
    | zero => intro _; simp
    | succ i ih =>
      intro hi
      have hlt := (blk_iff (show (0 : Int) ≤ (n : Int) by omega) i).1 (by omega)
      rw [List.range_succ, List.flatMap_append, ih (by omega), List.flatMap_cons, List.flatMap_nil, List.append_nil, show min (i * 2048) n = i * 2048 by omega, show min ((i + 1) * 2048) n = i * 2048 + min 2048 (n - i * 2048) by omega, List.range_add, List.map_append, List.map_map]
      rfl
  rw [key N (Nat.le_refl _)]
  have : ((N : Int) * 2048) ≥ n := by unfold blk at hN; omega
  rw [show min (N * 2048) n = n by omega]
end Lm
end Go.Proofs.YtlhechlbmbjffaaDoor
