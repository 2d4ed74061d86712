/-
  'append' onto a row of the call's own, as one step of a region that draws its order.
-/
import Derived.Test.YtlhechlbmbjffaaDoorKit
import Derived.Deep.RegionLaw
namespace Go.Proofs.YtlhechlbmbjffaaDoor
open Go.RowKit
namespace Kit

theorem step_app {P : Program} {w W : World} {ops : Array Oper} {o : Oper} {a : Act} {K : Act → World → Prop} {Q : Exit → Act → World → Prop} {E : Prop} {e : TypeId} {z : Value} {by8 : Nat}
    (hinfo : (P.info? e).map (fun i => (i.zero, i.size, i.bytes)) = some (some z, 1, by8)) (hzs : z.cells.size = 1) (hb1 : 1 ≤ by8) (hgd : o.guard = none) (s x : Operand) (t : TypeId)
    (ho : o.op = .call { callee := .builtin .append, args := #[s, x], argTypes := #[t, t] }) (ht : P.underlying t = some (.slice e)) (base : Nat)
    (v : Value) (n : Nat) (xs : List Value) (hs : a.eval s = v) (hown : W.ownsRow base e 1 v n xs)
    (news : List Value) (m c : Nat) (hx : a.eval x = .slice (some ⟨W.heap.size, 0, none⟩) m c) (hm : news.length = m) (h1 : ∀ u ∈ news, u.oneCell' = true)
    (hweq : w = W.alloc (.cells news.toArray e)) (hbytes : (n + m) * by8 ≤ 140737488355328) (hbase : base ≤ W.heap.size)
    (h : ∀ v' w', w'.ownsRow base e 1 v' (n + m) (xs ++ news) → Below base W w' → K (a.put o.dst v') w') :
    if Region.wanted o (yielded ops a.tmps) = true then Oper.wp P o a w K Q else E := by
  subst hweq
  obtain ⟨i, hi, hz0, hz1, hz2⟩ := info_parts hinfo
  have hw : Region.wanted o (yielded ops a.tmps) = true := by simp [Region.wanted, hgd]
  rw [if_pos hw]
  have hnm : n + m ≤ 140737488355328 := Nat.le_trans (Nat.le_mul_of_pos_right _ hb1) hbytes
  obtain ⟨v', w', hrun, r1, r2, _⟩ := run_append_own (P := P) (W.alloc (.cells news.toArray e)) base t o.type e i z 1 by8 ht hi hz0 hz1 hz2 hzs (by decide) v n xs (hown.alloc _) ⟨W.heap.size, 0, none⟩ m c news (by omega)
    (by
      intro j u hu
      rw [Addr.add_lit, World.cell?_alloc_at _ _ _ _ (by simp)]
      simpa using hu) h1 (by unfold maxLen; omega) hbytes (by simp; omega)
  unfold Oper.wp
  simp [execOp, ho, resolve, invoke, builtin, hs, hx, hrun, Result.andThen]
  exact h v' w' r1 (((Below.refl base W).alloc hbase _).grown r2 (by simp; omega) (fun k hk => (hown.lt k hk).1))

/-- The same for a string that is appended to a row of bytes. -/
theorem step_str {P : Program} {w : World} {ops : Array Oper} {o : Oper} {a : Act} {K : Act → World → Prop} {Q : Exit → Act → World → Prop} {E : Prop} {e : TypeId}
    (hinfo : (P.info? e).map (fun i => (i.zero, i.size, i.bytes)) = some (some (.int .u8 0), 1, 1)) (hgd : o.guard = none) (sl x : Operand) (t u : TypeId)
    (ho : o.op = .call { callee := .builtin .append, args := #[sl, x], argTypes := #[t, u] }) (ht : P.underlying t = some (.slice e)) (hu : P.underlying u = some .string) (base : Nat)
    (v : Value) (n : Nat) (xs : List Value) (hs : a.eval sl = v) (hown : w.ownsRow base e 1 v n xs) (s : ByteArray) (hx : a.eval x = .string s)
    (hbytes : n + s.size ≤ 140737488355328) (hbase : base ≤ w.heap.size)
    (h : ∀ v' w', w'.ownsRow base e 1 v' (n + s.size) (xs ++ bytes s.data.toList) → Below base w w' → K (a.put o.dst v') w') :
    if Region.wanted o (yielded ops a.tmps) = true then Oper.wp P o a w K Q else E := by
  obtain ⟨i, hi, hz0, hz1, hz2⟩ := info_parts hinfo
  have hw : Region.wanted o (yielded ops a.tmps) = true := by simp [Region.wanted, hgd]
  rw [if_pos hw]
  obtain ⟨v', w', hrun, r1, r2, _⟩ := Lib.run_append_own_string (P := P) w base t u o.type e i ht hu hi hz0 hz1 hz2 v n xs hown s (by unfold maxLen; omega) hbytes hbase
  unfold Oper.wp
  simp [execOp, ho, resolve, invoke, builtin, hs, hx, hrun, Result.andThen]
  exact h v' w' r1 ((Below.refl base w).grown r2 hbase (fun k hk => (hown.lt k hk).1))
end Kit
end Go.Proofs.YtlhechlbmbjffaaDoor
