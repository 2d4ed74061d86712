/-
  finalize.Check, plain: which write is refused; the set of addresses that are done.
-/
import Derived.Test.YtiekfipjbmdkpaaGreatDoorYb
import Derived.Maps.Own
import Derived.Maps.OwnSet
namespace Go.Proofs.YtiekfipjbmdkpaaGreatDoor
open Go.RowKit Go.Maps
namespace Fi
def used (b : List ByteArray) (z : Int) : Bool := decide (z < b.length) && !decide (b.getD z.toNat ⟨#[]⟩ = ⟨#[]⟩)
/-- What is wrong with one more address. -/
def step (kind : Int) (b : List ByteArray) (L : List (Int × Int)) (done : List Int) (z : Int) : Option (Int × Int) :=
  if L.any (inS z) = true then some (z, 15) else if (decide (kind = 1) && (decide (z ∈ done) || used b z)) = true then some (z, 8) else none
/-- The first address that is refused. -/
def go (kind : Int) (b : List ByteArray) (L : List (Int × Int)) : List Int → List Int → Int × Int
  | _, [] => (0, 0)
  | done, z :: r => match step kind b L done z with
    | some p => p
    | none => go kind b L (done ++ [z]) r
theorem go_on {kind : Int} {b : List ByteArray} {L : List (Int × Int)} {done r : List Int} {z : Int} (h : step kind b L done z = none) : go kind b L done (z :: r) = go kind b L (done ++ [z]) r := by rw [go, h]
theorem go_at {kind : Int} {b : List ByteArray} {L : List (Int × Int)} {done r : List Int} {z : Int} {p : Int × Int} (h : step kind b L done z = some p) : go kind b L done (z :: r) = p := by rw [go, h]
/-- What Check gives. -/
def chkR (kind : Int) (b : List ByteArray) (l : List Se) (pv : Bool) (ws : List Wr) : Int × Int :=
  if (validD b l && pv) = true then (if kind = 0 then (0, 15) else go kind b (closedL l) [] (adrs ws)) else (0, 1)
/-- The reader of a map's elements as they are. -/
def asV : Value → Option (DataW Value × List MemPlace) := fun v => some (.held v, [])
abbrev BM (W : World) (b n : Nat) (D : DataW Value) : Prop := W.ownsMap Tryz.prog 3 asV b n D
def BIs (D : DataW Value) (ps : List Int) : Prop := ∀ z : Int, D.atKey (.int .i64 z) (.held (.bool false)) = .held (.bool (decide (z ∈ ps)))
theorem BIs.nil : BIs (.map []) [] := fun _ => rfl
theorem BIs.put {D : DataW Value} {ps : List Int} (h : BIs D ps) (hD : IsMap D) (q : Int) : BIs (D.put (.int .i64 q) (.held (.bool true))) (ps ++ [q]) := fun z => by
  by_cases hz : z = q
  · subst hz
    rw [atKey_put_same hD (show WideAt.IsKeyLit (.int .i64 z) from trivial) _ _]
    simp
  · rw [atKey_put_other (by intro h'; exact hz (by injection h')) _ _, h z]
    simp [hz]
theorem keyedI : Keyed Tryz.prog 3 := int_keyed Tryz.underlying3
theorem look_done {W : World} {b n : Nat} {D : DataW Value} {ps : List Int} (h : BM W b n D) (hI : BIs D ps) (z : Int) (hz : (Lit.int .i64 z).wf = true) :
    (Instr.lookup 85 (.map (some b)) (.int .i64 z) false).run Tryz.prog W = .ok (.bool (decide (z ∈ ps))) W := by
  have hz0 : (zeroValue 4).run Tryz.prog W = .ok (.bool false) W := by kernel_rfl
  obtain ⟨v, ps', hrun, hv⟩ := World.ownsMap.lookup h keyedI (by kernel_rfl) hz0 (show asV (.bool false) = some (.held (.bool false), []) from rfl) (keyOf_int_mk Tryz.underlying3 hz)
  rw [hrun]
  rw [hI z] at hv
  unfold asV at hv
  simp only [Option.some.injEq, Prod.mk.injEq, DataW.held.injEq] at hv
  rw [hv.1]
theorem BM.isMap {W : World} {b n : Nat} {D : DataW Value} (h : BM W b n D) : IsMap D := by
  obtain ⟨es, clock, hb, F, _, rfl⟩ := h
  exact ⟨_, rfl⟩
end Fi
end Go.Proofs.YtiekfipjbmdkpaaGreatDoor
