/-
  What the row's card asks of the whole program.
-/
import Derived.Test.YtiekfipjbmdkpaaGreatDoorCards
import Derived.Test.YtiekfipjbmdkpaaGreatDoorTie
import Derived.Carry
namespace Go.Proofs.YtiekfipjbmdkpaaGreatDoor.finalizeContinues
open Go.RowKit
set_option linter.unusedVariables false
/-- No function of the program starts a goroutine. -/
theorem noGo : Tryz.prog.funcs.any Func.goes = false := by kernel_rfl
theorem goes_none {P : Program} (h : P.funcs.any Func.goes = false) (s : String) : P.goesFrom s = false := by
  have h1 : ∀ g : Nat, (P.funcs[g]?).any Func.goes = false := fun g => by
    cases hg : P.funcs[g]? with
    | none => rfl
    | some fn =>
      obtain ⟨hlt, he⟩ := Array.getElem?_eq_some_iff.1 hg
      have := (Array.any_eq_false.1 h) g hlt
      rw [he] at this
      simpa using this
  have h2 : ∀ f : FuncId, P.goes f = false := fun f => by
    unfold Program.goes
    rw [h, Bool.and_false, Bool.or_false, List.any_eq_false]
    intro g _
    rw [h1 g]
    simp
  unfold Program.goesFrom
  cases P.funcNamed s with
  | none => rfl
  | some f => exact h2 f
theorem goes : false = Rows.finalizeContinuesRow.goesBy Tryz.pinned.checked.prog := by
  unfold OpenClaim.goesBy Program.goesAt
  have h : Tryz.pinned.checked.prog.goesFrom Rows.finalizeContinuesRow.func = false := goes_none noGo _
  rw [h]
  rfl
theorem wf : Rows.finalizeContinuesRow.wfByText (OpenSpec.ofChange Rows.finalizeContinuesSpec) = true := by kernel_rfl
theorem mainIs : Tryz.pinned.checked.prog.mainIs = some (true, "f5bb327f42df3ff22137736a138e70f1c4df1c7a8613b2e4a49885d5bf894c02".toList) := by kernel_rfl

set_option maxHeartbeats 6400000 in
theorem joined : joinedFacts Tryz.pinned.checked.prog 3 Tryz.f3 (OpenSpec.ofChange Rows.finalizeContinuesSpec).bare Rows.finalizeContinuesRow = true := by
  unfold joinedFacts
  with_reducible repeat' (refine Bool.and_eq_true_iff.2 ⟨?_, ?_⟩)
  all_goals (as_aux_lemma => kernel_rfl)

end Go.Proofs.YtiekfipjbmdkpaaGreatDoor.finalizeContinues
