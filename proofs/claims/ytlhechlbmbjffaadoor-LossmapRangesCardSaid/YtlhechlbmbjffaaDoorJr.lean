/-
  Rows of losses that a call owns: more at the end; the last one's length raised.
-/
import Derived.Test.YtlhechlbmbjffaaDoorJe
import Derived.Laws.OwnMore
import Derived.Maps.AppendAt
import Derived.OwnWalkIn
import Derived.Laws.AppendOwnNone
namespace Go.Proofs.YtlhechlbmbjffaaDoor
open Go.RowKit
namespace Lm
/-- The cells of losses. -/
def lsC (l : List L) : List Value := l.flatMap lC
theorem lsC_len (l : List L) : (lsC l).length = l.length * 3 := by
  induction l with
  | nil => rfl
  | cons p t ih => simp only [lsC, List.flatMap_cons, List.length_append, List.length_cons] at ih ⊢; rw [ih]; simp [lC]; omega
theorem lsC_at (l : List L) (j : Nat) (h : j < l.length) (k : Nat) (hk : k < 3) : (lsC l)[j * 3 + k]? = (lC (l.getD j l0))[k]? := by
  induction l generalizing j with
  | nil => simp at h
  | cons p t ih =>
    have hc : lsC (p :: t) = lC p ++ lsC t := rfl
    have h6 : (lC p).length = 3 := rfl
    rw [hc]
    cases j with
    | zero =>
      rw [List.getElem?_append_left (by rw [h6]; omega)]
      simp
    | succ j =>
      rw [List.getElem?_append_right (by rw [h6]; omega), h6, show (j + 1) * 3 + k - 3 = j * 3 + k by omega, ih j (by simpa using h)]
      simp
theorem lsC_app (a b : List L) : lsC (a ++ b) = lsC a ++ lsC b := by simp [lsC]
theorem lsC_set (l : List L) (p : L) (z : Int) : (lsC (l ++ [p])).set (l.length * 3 + 2) (.int .i64 z) = lsC (l ++ [⟨p.path, p.off, z⟩]) := by
  have hl := lsC_len l
  rw [lsC_app, lsC_app, List.set_append_right _ _ (by rw [hl]; omega), hl, show l.length * 3 + 2 - l.length * 3 = 2 by omega]
  rfl
theorem getD_end (l : List L) (p : L) : (l ++ [p]).getD l.length l0 = p := by simp [List.getD]
theorem lsC_one (l : List L) : ∀ u ∈ lsC l, u.oneCell' = true := by
  intro u hu
  obtain ⟨p, _, hp⟩ := List.mem_flatMap.1 hu
  simp only [lC, List.mem_cons, List.not_mem_nil, or_false] at hp
  rcases hp with rfl | rfl | rfl <;> rfl
/-- A row of losses of the call's own. -/
abbrev OwnL (w : World) (base : Nat) (v : Value) (l : List L) : Prop := w.ownsRow base 35 3 v l.length (lsC l)
theorem OwnL.nil (w : World) (base : Nat) : OwnL w base (.slice Option.none 0 0) [] := ⟨rfl, Or.inl ⟨rfl, rfl⟩⟩
theorem OwnL.row {w : World} {base : Nat} {v : Value} {l : List L} (h : OwnL w base v l) : Losses w v l := by
  rcases h.2 with ⟨rfl, h0⟩ | ⟨g, cap, cur, rfl, _, hg, hnc, hcm, _, _⟩
  · exact ⟨Option.none, 0, by rw [h0], by omega, by unfold maxLen; omega, fun h' => by omega⟩
  · refine ⟨some ⟨g, 0, Option.none⟩, cap, rfl, hnc, hcm, fun _ => ⟨g, 0, rfl, (Array.getElem?_eq_some_iff.1 hg).1, fun j hj k u hu => ?_⟩⟩
    have hk : k < 3 := (List.getElem?_eq_some_iff.1 hu).1
    have := h.cells (g := g) rfl (j * 3 + k) u (by rw [lsC_at l j hj k hk]; exact hu)
    rw [Addr.add_lit] at this
    rwa [show 0 + j * 3 + k = 0 + (j * 3 + k) by omega]
/-- A row of losses is nil or lies in a block. -/
theorem OwnL.shape {w : World} {base : Nat} {v : Value} {l : List L} (h : OwnL w base v l) : (v = .slice Option.none 0 0 ∧ l = []) ∨ ∃ g cap, v = .slice (some ⟨g, 0, Option.none⟩) l.length cap ∧ base ≤ g ∧ g < w.heap.size ∧ l.length ≤ cap ∧ cap ≤ maxLen := by
  rcases h.2 with ⟨h0, h1⟩ | ⟨g, cap, cur, rfl, hb, hg, hnc, hcm, _, _⟩
  · exact .inl ⟨h0, List.eq_nil_of_length_eq_zero h1⟩
  · exact .inr ⟨g, cap, rfl, hb, (Array.getElem?_eq_some_iff.1 hg).1, hnc, hcm⟩
/-- The last loss's cells, and what a raised length leaves. -/
theorem OwnL.last {W : World} {base : Nat} {v : Value} {l : List L} {p : L} (h : OwnL W base v (l ++ [p])) :
    ∃ g cap, v = .slice (some ⟨g, 0, Option.none⟩) (l.length + 1) cap ∧ base ≤ g ∧ g < W.heap.size ∧ l.length + 1 ≤ cap ∧ cap ≤ maxLen ∧ W.cell? ⟨g, l.length * 3 + 1, Option.none⟩ = some (.int .i64 p.off) ∧ W.cell? ⟨g, l.length * 3 + 2, Option.none⟩ = some (.int .i64 p.len) ∧ W.frozen? ⟨g, l.length * 3 + 2, Option.none⟩ = false ∧
      ∀ z : Int, OwnL (W.setCell ⟨g, l.length * 3 + 2, Option.none⟩ (.int .i64 z)) base (.slice (some ⟨g, 0, Option.none⟩) (l.length + 1) cap) (l ++ [⟨p.path, p.off, z⟩]) ∧ W.grownBy (W.setCell ⟨g, l.length * 3 + 2, Option.none⟩ (.int .i64 z)) (some g) := by
  have hlen : (l ++ [p]).length = l.length + 1 := by simp
  have h0 := h
  rcases h.2 with ⟨_, hz⟩ | ⟨g, cap, cur, rfl, hb, hg, hnc, hcm, _, _⟩
  · rw [hlen] at hz; omega
  · rw [hlen] at *
    have c1 := h0.cells (g := g) rfl (l.length * 3 + 1) (.int .i64 p.off) (by rw [lsC_at _ _ (by simp) 1 (by omega), getD_end]; rfl)
    have c2 := h0.cells (g := g) rfl (l.length * 3 + 2) (.int .i64 p.len) (by rw [lsC_at _ _ (by simp) 2 (by omega), getD_end]; rfl)
    rw [Addr.add_lit] at c1 c2
    simp only [Nat.zero_add] at c1 c2
    have h0' : W.ownsRow base 35 3 (.slice (some ⟨g, 0, none⟩) (l.length + 1) cap) (l.length + 1) (lsC (l ++ [p])) := by
      have := h0
      simp only [OwnL, List.length_append, List.length_cons, List.length_nil, Nat.zero_add] at this
      exact this
    refine ⟨g, cap, rfl, hb, (Array.getElem?_eq_some_iff.1 hg).1, hnc, hcm, c1, c2, h0'.frozenAt _, fun z => ?_⟩
    have := (h0'.stored (l.length * 3 + 2) (.int .i64 z))
    refine ⟨?_, this.2⟩
    have h1 := this.1
    rw [lsC_set] at h1
    show World.ownsRow _ base 35 3 _ (l ++ [(⟨p.path, p.off, z⟩ : L)]).length (lsC (l ++ [(⟨p.path, p.off, z⟩ : L)]))
    rw [show (l ++ [(⟨p.path, p.off, z⟩ : L)]).length = l.length + 1 by simp]
    exact h1
end Lm
theorem lossInfo : (Tryd.prog.info? 35).map (fun i => (i.zero, i.size, i.bytes)) = some (some (.agg #[.string ⟨#[]⟩, .int .i64 0, .int .i64 0]), 3, 32) := by kernel_rfl
theorem lossElem : Tryd.prog.underlying 27 = some (.slice 35) := by kernel_rfl

/-- 'append(v, xs...)': losses behind a row of the call's own. -/
theorem runL (W : World) (ty : TypeId) (base : Nat) (v : Value) (l m : List Lm.L) (hown : Lm.OwnL W base v l) (q : Addr) (c : Nat) (hxc : ∀ (j : Nat) (u : Value), (Lm.lsC m)[j]? = some u → W.cell? (q.add j) = some u)
    (h8 : l.length + m.length ≤ 100000000000) (hbase : base ≤ W.heap.size) :
    ∃ v' w', (Builtin.append_ #[27, 27] ty #[v, .slice (some q) m.length c]).run Tryd.prog W = .ok v' w' ∧ Lm.OwnL w' base v' (l ++ m) ∧ W.grownBy w' v.ownBlock ∧ (v'.ownBlock = v.ownBlock ∨ v'.ownBlock = some W.heap.size) := by
  obtain ⟨i, hi, hz0, hz1, hz2⟩ := info_parts lossInfo
  obtain ⟨v', w', h1, h2, h3, _, h5⟩ := run_append_own_at (P := Tryd.prog) W base 27 ty 35 i _ 3 32 lossElem hi hz0 hz1 hz2 rfl (by decide) v l.length (Lm.lsC l) hown q m.length c (Lm.lsC m) (Lm.lsC_len m) hxc (Lm.lsC_one m) (by unfold maxLen; omega) (by omega) hbase
  refine ⟨v', w', h1, ?_, h3, h5⟩
  show World.ownsRow _ base 35 3 _ (l ++ m).length (Lm.lsC (l ++ m))
  rw [Lm.lsC_app, List.length_append]
  exact h2
/-- In a walk. -/
theorem pushL {W : World} {ops : Array Oper} {rest : List Oper} {o : Oper} {a : Act} {Q : Exit → Act → World → Prop} (hgd : o.guard = none) (s x : Operand)
    (ho : o.op = .call { callee := .builtin .append, args := #[s, x], argTypes := #[27, 27] })
    (base : Nat) (v : Value) (l m : List Lm.L) (hs : a.eval s = v) (hown : Lm.OwnL W base v l) (q : Addr) (c : Nat) (hx : a.eval x = .slice (some q) m.length c) (hxc : ∀ (j : Nat) (u : Value), (Lm.lsC m)[j]? = some u → W.cell? (q.add j) = some u)
    (h8 : l.length + m.length ≤ 100000000000) (hbase : base ≤ W.heap.size)
    (h : ∀ v' w', Lm.OwnL w' base v' (l ++ m) → W.grownBy w' v.ownBlock → (v'.ownBlock = v.ownBlock ∨ v'.ownBlock = some W.heap.size) → wpList Tryd.prog ops Q rest (a.put o.dst v') w') :
    wpList Tryd.prog ops Q (o :: rest) a W := by
  refine wpList_plain hgd fun K hK => ?_
  obtain ⟨v', w', hr, h2, h3, h4⟩ := runL W o.type base v l m hown q c hxc h8 hbase
  unfold Oper.wp execOp
  simp only [ho, resolve, invoke, builtin, Sem.run_bind, Sem.run_pure, Result.andThen_ok, List.map_toArray, List.map_cons, List.map_nil, hs, hx, hr]
  exact hK _ _ (h v' w' h2 h3 h4)
/-- In a fence's walk. -/
theorem pushLIn {F : Fence} {n : Nat} {W : World} {ops : Array Oper} {rest : List Oper} {o : Oper} {a : Act} {Q : Exit → Act → World → Prop} (hgd : o.guard = none) (s x : Operand)
    (ho : o.op = .call { callee := .builtin .append, args := #[s, x], argTypes := #[27, 27] })
    (base : Nat) (v : Value) (l m : List Lm.L) (hs : a.eval s = v) (hown : Lm.OwnL W base v l) (q : Addr) (c : Nat) (hx : a.eval x = .slice (some q) m.length c) (hxc : ∀ (j : Nat) (u : Value), (Lm.lsC m)[j]? = some u → W.cell? (q.add j) = some u)
    (h8 : l.length + m.length ≤ 100000000000) (hbase : base ≤ W.heap.size)
    (h : ∀ v' w', Lm.OwnL w' base v' (l ++ m) → W.grownBy w' v.ownBlock → (v'.ownBlock = v.ownBlock ∨ v'.ownBlock = some W.heap.size) → wpListIn F n Tryd.prog ops Q rest (a.put o.dst v') w') :
    wpListIn F n Tryd.prog ops Q (o :: rest) a W := by
  refine wpListIn_plain hgd fun K hK => ?_
  obtain ⟨v', w', hr, h2, h3, h4⟩ := runL W o.type base v l m hown q c hxc h8 hbase
  unfold Oper.wpIn
  refine ⟨?_, ?_⟩
  · simp [Oper.about, ho, resolve, Target.leads, Sem.run_pure]
  · rw [Oper.semAt_plain F _ _ (by rw [ho]; intro c hc'; cases hc')]
    simp only [execOp, ho, resolve, invoke, builtin, Sem.run_bind, Sem.run_pure, Result.andThen_ok, List.map_toArray, List.map_cons, List.map_nil, hs, hx, hr]
    exact hK _ _ (h v' w' h2 h3 h4)
/-- 'append(v, nil...)'. -/
theorem pushLnone {W : World} {ops : Array Oper} {rest : List Oper} {o : Oper} {a : Act} {Q : Exit → Act → World → Prop} (hgd : o.guard = none) (s x : Operand)
    (ho : o.op = .call { callee := .builtin .append, args := #[s, x], argTypes := #[27, 27] })
    (base : Nat) (v : Value) (l : List Lm.L) (hs : a.eval s = v) (hown : Lm.OwnL W base v l) (hx : a.eval x = .slice none 0 0)
    (h : wpList Tryd.prog ops Q rest (a.put o.dst v) W) : wpList Tryd.prog ops Q (o :: rest) a W := by
  obtain ⟨i, hi, hz0, hz1, hz2⟩ := info_parts lossInfo
  exact wpList_append_own_none hgd s x 27 ho base 35 i 3 lossElem hi v l.length (Lm.lsC l) hs hown hx h
end Go.Proofs.YtlhechlbmbjffaaDoor
