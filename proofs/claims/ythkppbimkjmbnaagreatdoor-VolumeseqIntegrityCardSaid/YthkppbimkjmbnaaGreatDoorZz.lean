/-
  Regions that draw their order and hold calls that make memory: one walk of the text's order serves every order, the class of worlds being all that leave what lay below a block as it was.
-/
import Derived.Test.YthkppbimkjmbnaaGreatDoorZA
import Derived.BigQuiet
import Derived.Deep.QuietTactic
namespace Go.Proofs.YthkppbimkjmbnaaGreatDoor
open Go.RowKit

/-- A world that leaves what lies below block B as it is in w. -/
structure Later (B : Nat) (w : World) where
  to : World
  bel : Below B w to

instance later_ne {B : Nat} {w : World} : Nonempty (Later B w) := ⟨⟨w, Below.refl B w⟩⟩

theorem wp_region_later {P : Program} {id : Nat} {Q : Exit → Act → World → Prop} {a : Act} {w : World} {l : List Oper} (B : Nat) (hm : P.follows .mixedOrders = true) (hB : Region.lexB .any l.toArray = true)
    (h : wpQuiet P l.toArray (fun w' => ∃ x : Later B w, w' = x.to) (fun a' => ∀ w', (∃ x : Later B w, w' = x.to) → Q .normal a' w') l a) : (Code.region id l.toArray true).wp P Q a w :=
  wp_region_quiet (C := fun w' => ∃ x : Later B w, w' = x.to) hm hB ⟨⟨w.drewN 1, Kit.below_drewN 1⟩, rfl⟩ (by simpa using h)

/-- A callee's contract, met in a later world. -/
theorem Calls.later_of {P : Program} {f : FuncId} {args : Array Value} {B : Nat} {w : World} {x : Later B w} {v : Value} (hB : B ≤ w.heap.size)
    (h : Calls P f args x.to fun e w' => e = .returned v ∧ Below x.to.heap.size x.to w') : Calls P f args x.to fun e w'' => e = .returned v ∧ ∃ y : Later B w, w'' = y.to :=
  h.mono fun _ _ ⟨he, hb⟩ => ⟨he, ⟨_, x.bel.trans (hb.mono (Nat.le_trans hB x.bel.size))⟩, rfl⟩

/-- .. of a callee that leaves the world as it is. -/
theorem Calls.later_same {P : Program} {f : FuncId} {args : Array Value} {B : Nat} {w : World} {x : Later B w} {v : Value}
    (h : Calls P f args x.to fun e w' => e = .returned v ∧ x.to = w') : Calls P f args x.to fun e w'' => e = .returned v ∧ ∃ y : Later B w, w'' = y.to :=
  h.mono fun _ _ ⟨he, hb⟩ => ⟨he, x, hb.symm⟩
theorem later_cell {B : Nat} {w : World} (x : Later B w) {b o : Nat} {v : Value} (hb : b < B) (h : w.cell? ⟨b, o, none⟩ = some v) : x.to.cell? ⟨b, o, none⟩ = some v :=
  (x.bel.cell (p := ⟨b, o, none⟩) hb).trans h
end Go.Proofs.YthkppbimkjmbnaaGreatDoor
