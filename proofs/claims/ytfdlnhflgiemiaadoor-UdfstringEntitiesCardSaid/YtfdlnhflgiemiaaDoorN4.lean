/-
  The walks through the reference's ParseEntity and Charspec.
-/
import Derived.Test.YtfdlnhflgiemiaaDoorN3
namespace Go.Proofs.YtfdlnhflgiemiaaDoor
open Go.RowKit
namespace Cs
theorem while_len (l : List UInt8) (k : Nat) (hk : k ≤ l.length) (h0 : ∀ j, j < k → byt l j ≠ 0) (h1 : k = l.length ∨ byt l k = 0) : (l.takeWhile fun b => b != 0) = l.take k := by
  induction l generalizing k with
  | nil =>
    have : k = 0 := by simpa using hk
    subst this
    rfl
  | cons a t ih =>
    cases k with
    | zero =>
      rcases h1 with h1 | h1
      · simp at h1
      · have ha : a = 0 := by
          apply UInt8.toNat_inj.1
          exact h1
        subst ha
        rfl
    | succ k =>
      have ha : a ≠ 0 := by
        intro h
        subst h
        exact h0 0 (by omega) rfl
      rw [List.takeWhile_cons, if_pos (by simpa using ha), List.take_succ_cons]
      congr 1
      refine ih k (by simpa using hk) (fun j hj => ?_) ?_
      · exact h0 (j + 1) (by omega)
      · rcases h1 with h1 | h1
        · left; simpa using h1
        · right; exact h1
theorem byt_entL {f : List UInt8} (_h : f.length = 32) (j : Nat) (hj : j < 23) : byt (entL f) j = byt f (1 + j) := by
  unfold entL byt
  simp [List.getD, hj, Nat.add_comm]
theorem zeros_all (l : List UInt8) : (l.all fun b => b == 0) = decide (l = List.replicate l.length 0) := by
  rw [Bool.eq_iff_iff, decide_eq_true_eq, List.all_eq_true]
  constructor
  · intro h
    exact List.eq_replicate_iff.2 ⟨rfl, fun b hb => by simpa using h b hb⟩
  · intro h b hb
    simpa using (List.eq_replicate_iff.1 h).2 b hb
end Cs

set_option maxHeartbeats 1600000 in
set_option maxRecDepth 100000 in
/-- masterdiscref32.Charspec. -/
theorem rCharspec_any (w : World) : Calls Tryd.prog 29 #[] w fun e w' => e = .returned (.string ⟨charspecL.toArray⟩) ∧ Below w.heap.size w w' := by
  have cZ := fun W => vZeros_any 40 (by decide) (by decide) W
  generalize hr : List.replicate (40 : Int).toNat (0 : UInt8) = r at cZ
  have hr' : r = List.replicate 40 0 := hr.symm
  have hl : r.length ≤ 40 := by rw [hr']; simp
  have HR := Lib.hid hr'
  have CZ := Lib.hid cZ
  clear cZ hr hr'
  go_enter Tryd.func29, Tryd.ntmps29
  go_wp2_with fail
  with_reducible refine (CZ.out _).mono ?_
  rintro e w3 ⟨rfl, hb3⟩
  go_wp2_with fail
  go_ret
  refine ⟨?_, hb3⟩
  rw [HR.out]
  exact congrArg (fun s => Ending.returned (.string s)) (Kit.append_mk [0, 79, 83, 84, 65, 32, 67, 111, 109, 112, 114, 101, 115, 115, 101, 100, 32, 85, 110, 105, 99, 111, 100, 101] _)

end Go.Proofs.YtfdlnhflgiemiaaDoor
