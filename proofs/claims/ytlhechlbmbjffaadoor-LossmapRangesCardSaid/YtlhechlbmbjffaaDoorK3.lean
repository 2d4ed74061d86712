/-
  More small lemmas over the model: rows of whatever element size, sources of an append.
-/
import Derived.Test.YtlhechlbmbjffaaDoorBs
import Derived.Laws.AppendOwnNone
namespace Go.Proofs.YtlhechlbmbjffaaDoor
open Go.RowKit
namespace Kit

/-- A row whose nil slice has no capacity. -/
def RowS (w : World) (v : Value) (xs : List Value) : Prop := Row w v xs ∧ ∀ n c, v = .slice none n c → c = 0
theorem RowS.below {w w' : World} {v : Value} {xs : List Value} (h : RowS w v xs) (hb : Below w.heap.size w w') : RowS w' v xs := ⟨h.1.below hb, h.2⟩
theorem RowS.of_own {w : World} {base e n : Nat} {v : Value} {xs : List Value} (h : w.ownsRow base e 1 v n xs) : RowS w v xs := by
  refine ⟨Row.of_own h, fun m c hv => ?_⟩
  rcases h.2 with ⟨rfl, _⟩ | ⟨g, cap, cur, rfl, _⟩
  · simp at hv; exact hv.2.symm
  · simp at hv
theorem RowS.nil (w : World) : RowS w (.slice none 0 0) [] := ⟨⟨none, 0, rfl, by simp, by unfold maxLen; omega, fun h => by simp at h⟩, fun n c h => by simp at h; exact h.2.symm⟩
/-- A row that has just been laid. -/
theorem RowS.new (w : World) (xs : List Value) (e : TypeId) (hl : xs.length ≤ maxLen) : RowS (w.alloc (.cells xs.toArray e)) (.slice (some ⟨w.heap.size, 0, none⟩) xs.length xs.length) xs := by
  refine ⟨⟨some ⟨w.heap.size, 0, none⟩, xs.length, rfl, Nat.le_refl _, hl, fun _ => ⟨w.heap.size, 0, rfl, by simp, fun j u hu => ?_⟩⟩, fun n c h => by simp at h⟩
  rw [World.cell?_alloc_at _ _ _ _ (by simp)]
  simpa using hu

/-- 'append(v, ys...)' onto a row of the call's own, ys a row. -/
theorem appRow {P : Program} {W : World} {ops : Array Oper} {rest : List Oper} {o : Oper} {a : Act} {Q : Exit → Act → World → Prop} {e : TypeId} {z : Value} {by8 : Nat}
    (hinfo : (P.info? e).map (fun i => (i.zero, i.size, i.bytes)) = some (some z, 1, by8)) (hzs : z.cells.size = 1) (hb1 : 1 ≤ by8) (hgd : o.guard = none) (s x : Operand) (t : TypeId)
    (ho : o.op = .call { callee := .builtin .append, args := #[s, x], argTypes := #[t, t] }) (ht : P.underlying t = some (.slice e)) (base : Nat)
    (v : Value) (n : Nat) (xs : List Value) (hs : a.eval s = v) (hown : W.ownsRow base e 1 v n xs)
    (y : Value) (ys : List Value) (hx : a.eval x = y) (hr : RowS W y ys) (h1 : ∀ u ∈ ys, u.oneCell' = true)
    (hbytes : (n + ys.length) * by8 ≤ 140737488355328) (hbase : base ≤ W.heap.size)
    (h : ∀ v' w', w'.ownsRow base e 1 v' (n + ys.length) (xs ++ ys) → Below base W w' → wpList P ops Q rest (a.put o.dst v') w') :
    wpList P ops Q (o :: rest) a W := by
  obtain ⟨i, hi, hz0, hz1, hz2⟩ := info_parts hinfo
  have hnm : n + ys.length ≤ 140737488355328 := Nat.le_trans (Nat.le_mul_of_pos_right _ hb1) hbytes
  obtain ⟨⟨A, c, rfl, hlc, hcm, hcell⟩, hn⟩ := hr
  cases A with
  | none =>
    have hc0 := hn _ _ rfl
    subst hc0
    obtain rfl : ys = [] := List.eq_nil_of_length_eq_zero (by omega)
    refine wpList_append_own_none hgd s x t ho base e i 1 ht hi v n xs hs hown hx ?_
    exact h v W (by simpa using hown) (Below.refl _ _)
  | some ad =>
    refine wpList_append_own W hgd s x t ho base e i z 1 by8 ht hi hz0 hz1 hz2 hzs (by decide) v n xs hs hown ad ys.length c ys hx (by omega) (fun j u hu => ?_) h1 (by unfold maxLen; omega) hbytes hbase ?_
    · have hj : j < ys.length := (List.getElem?_eq_some_iff.1 hu).1
      obtain ⟨b, o', hb, _, hc⟩ := hcell (by omega)
      simp at hb
      subst hb
      rw [Addr.add_lit]
      exact hc j u hu
    · intro v' w' ho' hg _
      exact h v' w' ho' ((Below.refl base W).grown hg hbase (fun k hk => (hown.lt k hk).1))
theorem one_izs (l : List Int) : ∀ u ∈ izs l, u.oneCell' = true := by
  intro u hu
  obtain ⟨_, _, rfl⟩ := List.mem_map.1 hu
  rfl
theorem izs_append (l m : List Int) : izs (l ++ m) = izs l ++ izs m := by simp [izs]

/-- A slice value whose elements, of some cells each, read as lists of cells. -/
def RowN (w : World) (v : Value) (size n : Nat) (C : Nat → List Value) : Prop := ∃ A c, v = .slice A n c ∧ n ≤ c ∧ c ≤ maxLen ∧
  (0 < n → ∃ b o, A = some ⟨b, o, none⟩ ∧ b < w.heap.size ∧ ∀ j, j < n → ∀ k u, (C j)[k]? = some u → w.cell? ⟨b, o + j * size + k, none⟩ = some u)
theorem RowN.below {w w' : World} {v : Value} {size n : Nat} {C : Nat → List Value} (h : RowN w v size n C) (hb : Below w.heap.size w w') : RowN w' v size n C := by
  obtain ⟨A, c, rfl, h1, h2, h3⟩ := h
  refine ⟨A, c, rfl, h1, h2, fun h0 => ?_⟩
  obtain ⟨b, o, rfl, hl, hc⟩ := h3 h0
  exact ⟨b, o, rfl, Nat.lt_of_lt_of_le hl hb.size, fun j hj k u hu => (hb.cell (p := ⟨b, o + j * size + k, none⟩) hl).trans (hc j hj k u hu)⟩
end Kit
end Go.Proofs.YtlhechlbmbjffaaDoor
