/-
  The map of losses by paths: its rows, a lookup, a store; plain laws of Lost.
-/
import Derived.Test.YtlhechlbmbjffaaDoorJr
import Derived.Test.YtlhechlbmbjffaaDoorJk
import Derived.Test.YtlhechlbmbjffaaDoorJl
namespace Go.Proofs.YtlhechlbmbjffaaDoor
open Go.RowKit Go.Maps
namespace Lm
/-- A block of cells of another type is no row of losses. -/
theorem OwnL.ne {W : World} {B g : Nat} {v : Value} {l : List L} {cs : Array Value} {T : TypeId} {fz : Nat × Nat} (h : OwnL W B v l) (hx : W.heap[g]? = some (.cells cs T fz)) (hT : T ≠ 35) : v.ownBlock ≠ some g := by
  rcases h.2 with ⟨rfl, _⟩ | ⟨g2, cap, cur, rfl, _, hg, _⟩
  · intro e
    cases e
  · intro e
    have e' : g2 = g := Option.some.inj e
    subst e'
    rw [hg] at hx
    have := Option.some.inj hx
    injection this with _ h2 _
    exact hT h2.symm
/-- A map's elements, read as they are. -/
def asIs (v : Value) : Option (DataW Value × List MemPlace) := some (.held v, [])
abbrev nilS : Value := .slice none 0 0
/-- Block mb is a map whose elements are rows of losses, each path's in a block of its own. -/
structure LMap (W : World) (mb B n : Nat) (D : DataW Value) (V : ByteArray → Value) (G : ByteArray → List L) : Prop where
  own : W.ownsMap Tryd.prog 9 asIs mb n D
  at' : ∀ p : ByteArray, D.atKey (.string p.data.toList) (.held nilS) = .held (V p)
  row : ∀ p, OwnL W B (V p) (G p)
  apart : ∀ p q, p ≠ q → (V p).ownBlock = none ∨ (V p).ownBlock ≠ (V q).ownBlock
  lt : mb < B
theorem LMap.grown {W W' : World} {mb B n : Nat} {D : DataW Value} {V : ByteArray → Value} {G : ByteArray → List L} {row : Option Nat} (h : LMap W mb B n D V G) (hg : W.grownBy W' row) (h1 : some mb ≠ row) (h2 : ∀ p, (V p).ownBlock = none ∨ (V p).ownBlock ≠ row) : LMap W' mb B n D V G :=
  ⟨h.own.kept hg h1, h.at', fun p => (h.row p).kept hg (h2 p), h.apart, h.lt⟩
theorem LMap.below {W W' : World} {mb B n : Nat} {D : DataW Value} {V : ByteArray → Value} {G : ByteArray → List L} (h : LMap W mb B n D V G) (hb : Below W.heap.size W W') : LMap W' mb B n D V G :=
  h.grown (Kit.grown_of_below hb) (by simp) (fun p => by cases (V p).ownBlock <;> simp)
theorem LMap.made (W : World) (B : Nat) (hB : W.heap.size < B) : LMap (W.alloc (.map #[] 0)) W.heap.size B 0 (.map []) (fun _ => nilS) (fun _ => []) :=
  ⟨World.ownsMap_made _ _ _ _, fun _ => rfl, fun _ => OwnL.nil _ _, fun _ _ _ => .inl rfl, hB⟩
theorem LMap.look {W : World} {mb B n : Nat} {D : DataW Value} {V : ByteArray → Value} {G : ByteArray → List L} (h : LMap W mb B n D V G) (p : ByteArray) (hp : p.size ≤ 1000) :
    (Instr.lookup 57 (.map (some mb)) (.string p) false).run Tryd.prog W = .ok (V p) W := by
  have hkey := Go.WideMaps.keyOf_string_mk (P := Tryd.prog) (s := p) Tryd.underlying9 (by unfold maxLen; omega)
  obtain ⟨v, ps, hrun, hv⟩ := World.ownsMap.lookup h.own (string_keyed Tryd.underlying9) Tryd.underlying57 (by kernel_rfl : (zeroValue 27).run Tryd.prog W = .ok nilS W) (show asIs nilS = some (.held nilS, []) from rfl) hkey
  rw [hrun]
  rw [h.at'] at hv
  unfold asIs at hv
  simp only [Option.some.injEq, Prod.mk.injEq, DataW.held.injEq] at hv
  rw [hv.1]
def upd {α : Type} (f : ByteArray → α) (p : ByteArray) (a : α) : ByteArray → α := fun q => if q = p then a else f q
theorem key_inj {p q : ByteArray} (h : (Lit.string p.data.toList) = .string q.data.toList) : p = q := by
  have h' : p.data.toList = q.data.toList := by injection h
  cases p; cases q
  simp at h'
  rw [h']
theorem LMap.put {W W1 : World} {mb B n : Nat} {D : DataW Value} {V : ByteArray → Value} {G : ByteArray → List L} (h : LMap W mb B n D V G) (p : ByteArray) (hp : p.size ≤ 1000) (v : Value) (l : List L)
    (hg : W.grownBy W1 (V p).ownBlock) (hv : OwnL W1 B v l) (hat : v.ownBlock = (V p).ownBlock ∨ ∃ r, v.ownBlock = some r ∧ W.heap.size ≤ r) :
    keyOf Tryd.prog 9 (.string p) = some (.string p.data.toList) ∧ W1.ownsMap Tryd.prog 9 asIs mb n D ∧
    ∀ W2, W2.ownsMap Tryd.prog 9 asIs mb (n + 1) (D.put (.string p.data.toList) (.held v)) → W1.grownBy W2 (some mb) → LMap W2 mb B (n + 1) (D.put (.string p.data.toList) (.held v)) (upd V p v) (upd G p l) := by
  have hne : some mb ≠ (V p).ownBlock := fun e => by
    have := ((h.row p).lt mb e.symm).1
    have := h.lt
    omega
  refine ⟨Go.WideMaps.keyOf_string_mk Tryd.underlying9 (by unfold maxLen; omega), h.own.kept hg hne, fun W2 ho hg2 => ⟨ho, fun q => ?_, fun q => ?_, fun q q' hqq => ?_, h.lt⟩⟩
  · have hD := World.ownsMap.isMap h.own
    unfold upd
    by_cases hq : q = p
    · subst hq
      rw [if_pos rfl]
      exact atKey_put_same hD (show WideAt.IsKeyLit (.string q.data.toList) from trivial) _ _
    · rw [if_neg hq, atKey_put_other (fun e => hq (key_inj e)) _ _]
      exact h.at' q
  · have hmb : ∀ v' l', OwnL W1 B v' l' → OwnL W2 B v' l' := fun v' l' ho' => ho'.kept hg2 (by
      cases hb : v'.ownBlock with
      | none => exact .inl rfl
      | some r =>
        refine .inr (fun e => ?_)
        have e' : r = mb := Option.some.inj e
        have := (ho'.lt r hb).1
        have := h.lt
        omega)
    unfold upd
    by_cases hq : q = p
    · rw [if_pos hq, if_pos hq]
      exact hmb _ _ hv
    · rw [if_neg hq, if_neg hq]
      exact hmb _ _ ((h.row q).kept hg (h.apart q p hq))
  · have hnew : ∀ q, q ≠ p → (v.ownBlock = none ∨ v.ownBlock ≠ (V q).ownBlock) := fun q hq => by
      rcases hat with e | ⟨r, e, hr⟩
      · rw [e]
        exact h.apart p q (fun e => hq e.symm)
      · refine .inr (fun e2 => ?_)
        have := ((h.row q).lt r (e2.symm.trans e)).2
        omega
    unfold upd
    by_cases hq : q = p
    · rw [if_pos hq, if_neg (fun e => hqq (hq.trans e.symm))]
      exact hnew q' (fun e => hqq (hq.trans e.symm))
    · rw [if_neg hq]
      by_cases hq' : q' = p
      · rw [if_pos hq']
        rcases hnew q hq with e | e
        · cases hb : (V q).ownBlock with
          | none => exact .inl rfl
          | some r => exact .inr (fun e2 => by rw [e] at e2; cases e2)
        · exact .inr (fun e2 => e e2.symm)
      · rw [if_neg hq']
        exact h.apart q q' hqq
/-- The losses, one piece more. -/
theorem lossM_snoc (ps : List P) (p : P) : ∀ s, lossM s (ps ++ [p]) = if p.ok = true then lossM s ps else upd (lossM s ps) p.path (addL (lossM s ps p.path) p) := by
  induction ps with
  | nil =>
    intro s
    simp only [List.nil_append, lossM]
    split <;> rfl
  | cons a t ih =>
    intro s
    simp only [List.cons_append, lossM]
    split
    · exact ih _
    · exact ih _
theorem addL_nil (p : P) : addL [] p = [⟨p.path, p.off, p.len⟩] := rfl
theorem addL_snoc (l : List L) (x : L) (p : P) : addL (l ++ [x]) p = if x.off + x.len = p.off then l ++ [⟨x.path, x.off, x.len + p.len⟩] else l ++ [x] ++ [⟨p.path, p.off, p.len⟩] := by
  simp [addL]
/-- What a loss's numbers are. -/
def okL (x : L) : Bool := decide (x.path.size ≤ 500) && (decide (0 ≤ x.off) && (decide (1 ≤ x.len) && decide (x.off + x.len ≤ 1073745920)))
theorem okL_iff (x : L) : okL x = true ↔ x.path.size ≤ 500 ∧ 0 ≤ x.off ∧ 1 ≤ x.len ∧ x.off + x.len ≤ 1073745920 := by simp [okL]
theorem addL_ok {l : List L} {p : P} (hl : l.all okL = true) (hp : okP p = true) : (addL l p).all okL = true := by
  obtain ⟨p1, p2, p3, p4, p5, p6⟩ := (okP_iff p).1 hp
  have hn : okL ⟨p.path, p.off, p.len⟩ = true := (okL_iff _).2 ⟨p1, p2, p4, by show p.off + p.len ≤ _; omega⟩
  rcases List.eq_nil_or_concat l with rfl | ⟨i, x, rfl⟩
  · simp [addL_nil, hn]
  · rw [List.concat_eq_append] at *
    rw [addL_snoc]
    rw [List.all_append] at hl
    simp only [List.all_cons, List.all_nil, Bool.and_true, Bool.and_eq_true] at hl
    split
    · rename_i he
      have hx := (okL_iff x).1 hl.2
      simp only [List.all_append, List.all_cons, List.all_nil, Bool.and_true, Bool.and_eq_true]
      exact ⟨hl.1, (okL_iff _).2 ⟨hx.1, hx.2.1, by show 1 ≤ x.len + p.len; omega, by show x.off + (x.len + p.len) ≤ _; omega⟩⟩
    · simp only [List.all_append, List.all_cons, List.all_nil, Bool.and_true, Bool.and_eq_true]
      exact ⟨⟨hl.1, hl.2⟩, hn⟩
theorem addL_len (l : List L) (p : P) : (addL l p).length ≤ l.length + 1 := by
  rcases List.eq_nil_or_concat l with rfl | ⟨i, x, rfl⟩
  · simp [addL_nil]
  · rw [List.concat_eq_append, addL_snoc]
    split <;> simp
theorem lossM_ok : ∀ (ps : List P) (s : ByteArray → List L), (∀ q, (s q).all okL = true) → ps.all okP = true → ∀ q, (lossM s ps q).all okL = true ∧ (lossM s ps q).length ≤ (s q).length + ps.length
  | [], s, hs, _, q => ⟨hs q, by simp [lossM]⟩
  | p :: t, s, hs, hp, q => by
    simp only [List.all_cons, Bool.and_eq_true] at hp
    simp only [lossM, List.length_cons]
    split
    · have := lossM_ok t s hs hp.2 q
      exact ⟨this.1, by omega⟩
    · have h2 := lossM_ok t (fun q => if q = p.path then addL (s p.path) p else s q) (fun q => by
        show (if q = p.path then addL (s p.path) p else s q).all okL = true
        split
        · exact addL_ok (hs _) hp.1
        · exact hs q) hp.2 q
      refine ⟨h2.1, ?_⟩
      have h3 : (if q = p.path then addL (s p.path) p else s q).length ≤ (s q).length + 1 := by
        split
        · rename_i e
          rw [e]
          exact addL_len _ _
        · omega
      have h4 := h2.2
      omega
/-- The first extent of its path. -/
def firstAt (fs : List F) (i : Nat) : Bool := (fs.take i).all (isN (fs.getD i f0).path)
theorem isN_self (f : F) : isN f.path f = false := by simp [isN]
theorem first_iff {fs : List F} {i : Nat} (hi : i < fs.length) {r : Int} (h : IdxP fs (fs.getD i f0).path r) : (r = i) = (firstAt fs i = true) := by
  apply propext
  rcases h with ⟨rfl, ha⟩ | ⟨j, hj, rfl, ha, hn⟩
  · have := all_get (d := f0) ha hi
    rw [isN_self] at this
    cases this
  · constructor
    · intro e
      have e' : j = i := by omega
      subst e'
      exact ha
    · intro hf
      have h1 : ¬ j < i := fun h => by
        have h2 := all_get (p := isN (fs.getD i f0).path) (d := f0) (i := j) hf (by rw [List.length_take]; omega)
        have h3 : (fs.take i).getD j f0 = fs.getD j f0 := by simp [List.getD, h]
        rw [h3, hn] at h2
        cases h2
      have h1' : ¬ i < j := fun h => by
        have h2 := all_get (p := isN (fs.getD i f0).path) (d := f0) (i := i) ha (by rw [List.length_take]; omega)
        have h3 : (fs.take j).getD i f0 = fs.getD i f0 := by simp [List.getD, h]
        rw [h3, isN_self] at h2
        cases h2
      omega
/-- Lost's result. -/
def outR (M : ByteArray → List L) (fs : List F) (i : Nat) : List L := (List.range i).flatMap fun j => if firstAt fs j = true then M (fs.getD j f0).path else []
def lossesR (img : List ByteArray) (fs : List F) : ByteArray → List L := lossM (fun _ => []) (piecesR img fs)
def lostR (img : List ByteArray) (fs : List F) : List L := outR (lossesR img fs) fs fs.length
theorem outR_succ (M : ByteArray → List L) (fs : List F) (i : Nat) : outR M fs (i + 1) = outR M fs i ++ if firstAt fs i = true then M (fs.getD i f0).path else [] := by
  unfold outR
  rw [List.range_succ, List.flatMap_append]
  simp
theorem outR_len {M : ByteArray → List L} {K : Nat} (h : ∀ q, (M q).length ≤ K) (fs : List F) (i : Nat) : (outR M fs i).length ≤ K * i := by
  induction i with
  | zero => simp [outR]
  | succ i ih =>
    rw [outR_succ, List.length_append, Nat.mul_succ]
    have : (if firstAt fs i = true then M (fs.getD i f0).path else []).length ≤ K := by
      split
      · exact h _
      · simp
    omega
end Lm
end Go.Proofs.YtlhechlbmbjffaaDoor
