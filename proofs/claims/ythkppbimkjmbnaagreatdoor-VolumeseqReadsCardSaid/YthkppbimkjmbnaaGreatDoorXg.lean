/-
  The walks through the reference's anchors: extent, Anchor, readExtent, ParseAnchor, Recognition, Session, Anchors.
-/
import Derived.Test.YthkppbimkjmbnaaGreatDoorZn
import Derived.Test.YthkppbimkjmbnaaGreatDoorZQ
import Derived.Test.YthkppbimkjmbnaaGreatDoorZZ
namespace Go.Proofs.YthkppbimkjmbnaaGreatDoor
open Go.RowKit
open Vs (bs by_)

set_option maxHeartbeats 3200000 in
set_option maxRecDepth 100000 in
/-- masterdiscref36.readExtent. -/
theorem r36ReadExtent_any (s : ByteArray) (a : Nat) (A : Int) (hA : A = (a : Int)) (ha : a + 8 ≤ s.size) (hs : s.size ≤ 9223372036854775807) (w : World) :
    Calls Tryz.prog 56 #[.string s, .int .i64 A] w fun e w' => e = .returned (.agg #[.int .i64 (Pm.at_ (by_ s) (a + 4) 4 : Nat), .int .i64 (Pm.at_ (by_ s) a 4 / 2048 : Nat)]) ∧ Below w.heap.size w w' := by
  subst hA
  have C1 := Lib.hid (fun W => r31N_any s (a + 4) 4 ((a : Int) + 4) 4 (by omega) rfl (by omega) (by omega) hs W)
  have C2 := Lib.hid (fun W => r31N_any s a 4 a 4 rfl rfl (by omega) (by omega) hs W)
  have hb := Pm.at_lt (by_ s) a 4
  have ha2 : (a : Int) + 8 ≤ 9223372036854775807 := by omega
  generalize Pm.at_ (by_ s) (a + 4) 4 = x at *
  generalize Pm.at_ (by_ s) a 4 = y at *
  have hy : (y : Int) < 4294967296 := by omega
  have HQ := Lib.hid (show ((y / 2048 : Nat) : Int) = (y : Int) / 2048 by omega)
  clear hs ha hb
  go_enter Tryz.func56, Tryz.ntmps56
  go_wp2_with fail
  with_reducible refine (C1.out _).mono ?_
  rintro e w2 ⟨rfl, hw⟩
  subst hw
  go_wp2_with fail
  with_reducible refine (C2.out _).mono ?_
  rintro e w2 ⟨rfl, hw⟩
  subst hw
  go_wp2_with fail
  refine bodyPost_ret (v := .agg #[.int .i64 (x : Int), .int .i64 ((y : Int) / 2048)]) (results_cell_row rfl _ _ w.heap.size 23 _ (0, 0) _ rfl (heap_alloc_new w _) Tryz.underlying23 rfl (by kernel_rfl)) rfl ⟨?_, (Below.refl _ _).alloc (Nat.le_refl _) _⟩
  rw [HQ.out]

namespace Vs
structure SR (w W : World) (v : Value) (l : List ByteArray) : Prop where
  own : W.ownsRow w.heap.size 9 1 v l.length (strs l)
  bel : Below w.heap.size w W
theorem SR.below {w W W' : World} {v : Value} {l : List ByteArray} (h : SR w W v l) (hb : Below W.heap.size W W') : SR w W' v l :=
  ⟨Kit.own_below h.own hb, h.bel.trans (hb.mono h.bel.size)⟩
theorem SR.app {w W : World} {ops : Array Oper} {rest : List Oper} {o : Oper} {a : Act} {Q : Exit → Act → World → Prop} {v : Value} {l : List ByteArray} (h : SR w W v l) (hl : l.length ≤ 1000) (k : ByteArray) (hgd : o.guard = none) (s x : Operand)
    (ho : o.op = .call { callee := .builtin .append, args := #[s, x], argTypes := #[31, 31] }) (hs : a.eval s = v) (hx : a.eval x = .slice (some ⟨W.heap.size, 0, none⟩) 1 1)
    (hk : ∀ v' w', SR w w' v' (l ++ [k]) → wpList Tryz.prog ops Q rest (a.put o.dst v') w') : wpList Tryz.prog ops Q (o :: rest) a (W.alloc (.cells #[.string k] 9)) := by
  refine Kit.app strInfo rfl (by decide) hgd s x 31 ho Tryz.underlying31 w.heap.size v l.length (strs l) hs h.own [.string k] 1 1 hx rfl (Kit.one1 rfl) (by omega) h.bel.size ?_
  intro v' w' ho' hb'
  refine hk v' w' ⟨?_, h.bel.trans hb'⟩
  rw [List.length_append]
  have e : strs (l ++ [k]) = strs l ++ [.string k] := by simp [strs]
  rw [e]
  exact ho'
theorem SR.nil (w : World) : SR w (w.alloc (.cells #[] 9)) (.slice (some ⟨w.heap.size, 0, none⟩) 0 0) [] := ⟨Kit.own_nil w _, (Below.refl _ _).alloc (Nat.le_refl _) _⟩
end Vs

end Go.Proofs.YthkppbimkjmbnaaGreatDoor
