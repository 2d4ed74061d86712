/-
  A world for the witnesses: the two tables of unicode/utf8; discs among the arguments, opened to cells.
-/
import Derived.Test.YtiekfipjbmdkpaaGreatDoorCards
import Derived.Test.YtiekfipjbmdkpaaGreatDoorTie
import Derived.WalkKit
import Derived.ProofKit
import Derived.OpenShut
import Derived.ShutString
import Derived.ChangeOld
import Derived.ChangeArms
import Derived.Carry
import Derived.Deep.DeepHandedRow
import Derived.Deep.Slices
import Derived.Lib.LaidTab
import Derived.Lib.LaidU8
import Derived.Test.YtiekfipjbmdkpaaGreatDoorFa
namespace Go.Proofs.YtiekfipjbmdkpaaGreatDoor
open Go.RowKit
namespace Frame
theorem own : ownKnob Tryz.prog.godebug = none := by kernel_rfl
theorem laidOut : laidOutB Tryz.prog = true := by kernel_rfl
/-- The tables' cells. -/
def firstCells : Array Value := ((List.range 256).map fun c => Value.int .u8 (Lib.firstT c : Nat)).toArray
def acceptCells : Array Value := ((List.range 16).flatMap fun i => [Value.int .u8 (Lib.accLo i : Nat), Value.int .u8 (Lib.accHi i : Nat)]).toArray
/-- A block's cells put in place of others. -/
def put (cs : Array Value) : Obj → Obj
  | .cells _ t frozen => .cells cs t frozen
  | o => o
/-- The settled world, the two tables holding what their initialisers lay. -/
noncomputable def world (os : Os) : World :=
  { World.holding Tryz.prog os ⟨#[], #[], []⟩ with heap := ((World.holding Tryz.prog os ⟨#[], #[], []⟩).heap.modify 1 (put firstCells)).modify 2 (put acceptCells) }
section
variable {H : Type} {enc : TypeId × Value → H} {w : World} {base : Nat} {spare : Nat → Bool} {held : Bool}
/-- One field of a struct that reads: it reads. -/
theorem field {P : Program} {fs : Array Field} {t : TypeId} {fuel : Nat} {cs : List Value} {x : DataW H × List MemPlace} (ht : P.underlying t = some (.struct fs)) (h : DataW.trod enc P w base spare held fuel t cs = some x)
    (i off k : Nat) (ty : TypeId) (hf : (fs[i]?).map (fun f => (f.offset, f.type)) = some (off, ty)) (hk : P.cellsOf ty = k) : ∃ n y, DataW.trod enc P w base spare held n ty ((cs.drop off).take k) = some y := by
  obtain ⟨xs, n, _, _, _, hlen, hg⟩ := DataW.trod_struct ht h
  cases hfi : fs[i]? with
  | none => rw [hfi] at hf; cases hf
  | some f =>
    rw [hfi] at hf
    simp only [Option.map_some, Option.some.injEq, Prod.mk.injEq] at hf
    have hi : i < xs.length := by rw [hlen]; exact (Array.getElem?_eq_some_iff.1 hfi).1
    have h1 := hg i f hfi
    rw [hf.1, hf.2, hk, List.getElem?_eq_getElem hi] at h1
    exact ⟨n, _, h1⟩
theorem i64_of_wf {z : Int} (h : (Lit.int .i64 z).wf = true) : -9223372036854775808 ≤ z ∧ z ≤ 9223372036854775807 := by
  have h' : (decide (IntKind.min .i64 ≤ z) && decide (z ≤ IntKind.max .i64)) = true := h
  rw [show IntKind.min .i64 = -9223372036854775808 from rfl, show IntKind.max .i64 = 9223372036854775807 from rfl, Bool.and_eq_true, decide_eq_true_eq, decide_eq_true_eq] at h'
  exact h'
theorem intAt {n : Nat} {c : Value} {y : DataW H × List MemPlace} (h : DataW.trod enc Tryz.prog w base spare held n 3 [c] = some y) : ∃ z : Int, c = .int .i64 z ∧ -9223372036854775808 ≤ z ∧ z ≤ 9223372036854775807 := by
  obtain ⟨z, hz, _, hwf⟩ := DataW.trod_int Tryz.underlying3 h
  simp only [List.cons.injEq, and_true] at hz
  exact ⟨z, hz, i64_of_wf hwf⟩
theorem strAt {n : Nat} {c : Value} {y : DataW H × List MemPlace} (h : DataW.trod enc Tryz.prog w base spare held n 9 [c] = some y) : ∃ s : ByteArray, c = .string s := by
  obtain ⟨s, hs, _, _⟩ := DataW.trod_string Tryz.underlying9 h
  simp only [List.cons.injEq, and_true] at hs
  exact ⟨s, hs⟩
/-- The elements of a slice that reads. -/
theorem open_elems {P : Program} {t e : TypeId} {C : Nat} (ht : P.underlying t = some (.slice e)) (hC : P.cellsOf e = C) (h0 : 0 < C) {n : Nat} {c : Value} {y : DataW H × List MemPlace} (h : DataW.trod enc P w base spare held n t [c] = some y) :
    ∃ A len cap, c = .slice A len cap ∧ len ≤ cap ∧ cap ≤ maxLen ∧ (A = none → cap = 0) ∧
      (0 < len → ∃ b o, A = some ⟨b, o, none⟩ ∧ b < w.heap.size ∧ ∀ i, i < len → ∃ cs m x, cs.length = C ∧ (∀ k u, cs[k]? = some u → w.cell? ⟨b, o + i * C + k, none⟩ = some u) ∧ DataW.trod enc P w base spare held m e cs = some x) := by
  rcases Go.Deep.open_slice ht h with ⟨hcs, _⟩ | ⟨a, len, cap, m, n', D, Pl, hcs, _, hle, hmax, hm, _, hall⟩
  · simp only [List.cons.injEq, and_true] at hcs
    exact ⟨none, 0, 0, hcs, Nat.le_refl _, by unfold maxLen; omega, fun _ => rfl, fun h => absurd h (Nat.lt_irrefl 0)⟩
  · simp only [List.cons.injEq, and_true] at hcs
    refine ⟨some a, len, cap, hcs, hle, hmax, (fun h => by cases h), fun hl => ?_⟩
    have hml : len ≤ m := by rw [hm]; split <;> omega
    have hpos : 0 < m := by omega
    have at0 : ∀ i, i < m → ∃ cs x, cs.length = C ∧ (∀ k u, cs[k]? = some u → w.cell? ((a.add (i * C)).add k) = some u) ∧ DataW.trod enc P w base spare held n' e cs = some x := by
      intro i hi
      obtain ⟨cs, hc, ht'⟩ := hall i hi
      rw [hC] at hc
      obtain ⟨_, hcl, hat⟩ := World.cells?_some hc
      refine ⟨cs, _, hcl, fun k u hu => ?_, ht'⟩
      have hk : k < C := by rw [← hcl]; exact (List.getElem?_eq_some_iff.1 hu).1
      rw [hat k hk, hu]
    obtain ⟨b, o, spot⟩ := a
    obtain ⟨cs0, x0, hl0, hc0, _⟩ := at0 0 hpos
    have h00 := hc0 0 (cs0[0]'(by omega)) (List.getElem?_eq_getElem (by omega))
    have hspot : spot = none := by simpa [Addr.add] using World.cell?_spot h00
    subst hspot
    rw [Addr.add_lit, Addr.add_lit] at h00
    refine ⟨b, o, rfl, World.block_lt_of_cell? _ _ h00, fun i hi => ?_⟩
    obtain ⟨cs, x, hcl, hat, ht'⟩ := at0 i (by omega)
    refine ⟨cs, n', x, hcl, fun k u hu => ?_, ht'⟩
    have := hat k u hu
    rwa [Addr.add_lit, Addr.add_lit] at this
/-- An image that reads. -/
theorem open_strs {n : Nat} {c : Value} {y : DataW H × List MemPlace} (h : DataW.trod enc Tryz.prog w base spare held n 23 [c] = some y) : ∃ l : List ByteArray, Lm.Strs w c l := by
  obtain ⟨A, len, cap, rfl, hle, hmax, hnone, hel⟩ := open_elems Tryz.underlying23 (show Tryz.prog.cellsOf 9 = 1 by kernel_rfl) (by decide) h
  by_cases hl : 0 < len
  · obtain ⟨b, o, rfl, hb, hx⟩ := hel hl
    have : Inhabited ByteArray := ⟨⟨#[]⟩⟩
    obtain ⟨f, hf⟩ := Go.Deep.choose_lt (α := ByteArray) (n := len) (p := fun i s => w.cell? ⟨b, o + i, none⟩ = some (.string s)) (fun i hi => by
      obtain ⟨cs, m, x, hcl, hat, ht⟩ := hx i hi
      obtain ⟨c, rfl⟩ : ∃ c, cs = [c] := by
        match cs, hcl with
        | [c], _ => exact ⟨c, rfl⟩
      obtain ⟨s, rfl⟩ := strAt ht
      have := hat 0 _ rfl
      rw [Nat.mul_one] at this
      exact ⟨s, this⟩)
    have hlen : ((List.range len).map f).length = len := by simp
    refine ⟨(List.range len).map f, some ⟨b, o, none⟩, cap, by rw [Lm.strs_length, hlen], by rw [Lm.strs_length, hlen]; exact hle, by rw [Lm.strs_length, hlen]; omega, fun _ => ⟨b, o, rfl, hb, fun j u hu => ?_⟩⟩
    have hj : j < len := by have := (List.getElem?_eq_some_iff.1 hu).1; rwa [Lm.strs_length, hlen] at this
    rw [hf j hj, ← hu]
    simp [Lm.strs, hj]
  · obtain rfl : len = 0 := by omega
    exact ⟨[], A, cap, rfl, Nat.zero_le _, Nat.zero_le _, fun h => by simp [Lm.strs] at h⟩
/-- A session that reads. -/
theorem open_se {n : Nat} {cs : List Value} {x : DataW H × List MemPlace} (hl : cs.length = 3) (h : DataW.trod enc Tryz.prog w base spare held n 49 cs = some x) : ∃ f : Fi.Se, cs = Fi.seC f := by
  obtain ⟨c0, c1, c2, rfl⟩ : ∃ c0 c1 c2, cs = [c0, c1, c2] := by
    match cs, hl with
    | [c0, c1, c2], _ => exact ⟨c0, c1, c2, rfl⟩
  have hs := Tryz.underlying49
  have ki : Tryz.prog.cellsOf 3 = 1 := by kernel_rfl
  have kb : Tryz.prog.cellsOf 4 = 1 := by kernel_rfl
  obtain ⟨_, _, h0⟩ := field hs h 0 0 1 3 (by rfl) ki
  obtain ⟨_, _, h1⟩ := field hs h 1 1 1 3 (by rfl) ki
  obtain ⟨_, _, h2⟩ := field hs h 2 2 1 4 (by rfl) kb
  obtain ⟨z0, rfl, _⟩ := intAt h0
  obtain ⟨z1, rfl, _⟩ := intAt h1
  obtain ⟨z2, hz2, _⟩ := DataW.trod_bool (cs := [c2]) Tryz.underlying4 h2
  simp only [List.cons.injEq, and_true] at hz2
  subst hz2
  exact ⟨⟨z0, z1, z2⟩, rfl⟩
theorem open_ses {n : Nat} {c : Value} {y : DataW H × List MemPlace} (h : DataW.trod enc Tryz.prog w base spare held n 24 [c] = some y) : ∃ l, Fi.Sess w c l := by
  obtain ⟨A, len, cap, rfl, hle, hmax, hnone, hel⟩ := open_elems Tryz.underlying24 (show Tryz.prog.cellsOf 49 = 3 by kernel_rfl) (by decide) h
  by_cases hl : 0 < len
  · obtain ⟨b, o, rfl, hb, hx⟩ := hel hl
    have : Inhabited Fi.Se := ⟨Fi.se0⟩
    obtain ⟨f, hf⟩ := Go.Deep.choose_lt (α := Fi.Se) (n := len) (p := fun i z => ∀ k u, (Fi.seC z)[k]? = some u → w.cell? ⟨b, o + i * 3 + k, none⟩ = some u) (fun i hi => by
      obtain ⟨cs, m, x, hcl, hat, ht⟩ := hx i hi
      obtain ⟨p, rfl⟩ := open_se hcl ht
      exact ⟨p, hat⟩)
    have hlen : ((List.range len).map f).length = len := by simp
    have hg : ∀ j, j < len → ((List.range len).map f).getD j Fi.se0 = f j := fun j hj => by simp [List.getD, hj]
    refine ⟨(List.range len).map f, some ⟨b, o, none⟩, cap, by rw [hlen], by rw [hlen]; exact hle, by rw [hlen]; omega, fun _ => ⟨b, o, rfl, hb, fun j hj k u hu => ?_⟩⟩
    rw [hlen] at hj
    have hu' : (Fi.seC (((List.range len).map f).getD j Fi.se0))[k]? = some u := hu
    rw [hg j hj] at hu'
    exact hf j hj k u hu'
  · obtain rfl : len = 0 := by omega
    exact ⟨[], A, cap, rfl, Nat.zero_le _, Nat.zero_le _, fun h => absurd h (by decide)⟩
end
set_option maxRecDepth 100000 in
/-- A disc among the arguments. -/
theorem open_disc {H : Type} {enc : TypeId × Value → H} {base : Nat} (W : World) (v : Value) (d : DataW H) (p : List MemPlace) (hval : Value.okWide Tryz.prog W .any base 26 v)
    (h : DataW.Trod enc Tryz.prog W 0 (fun _ => true) true 26 v d p) : ∃ x y b l, v = .agg #[x, y] ∧ Lm.Strs W x b ∧ Fi.Sess W y l := by
  have hs := Tryz.underlying26
  obtain ⟨cs, rfl, hsz⟩ := Go.WideShapes.okWide_struct hs hval
  obtain ⟨c0, c1, rfl⟩ : ∃ c0 c1, cs = #[c0, c1] := by
    have h2 := hsz.trans (show Tryz.prog.cellsOf 26 = 2 by kernel_rfl)
    obtain ⟨cs⟩ := cs
    match cs, h2 with
    | [c0, c1], _ => exact ⟨c0, c1, rfl⟩
  obtain ⟨fuel, hf⟩ := h
  have hf' : DataW.trod enc Tryz.prog W 0 (fun _ => true) true fuel 26 [c0, c1] = some (d, p) := hf
  obtain ⟨_, _, h0⟩ := field hs hf' 0 0 1 23 (by rfl) (by kernel_rfl)
  obtain ⟨_, _, h1⟩ := field hs hf' 1 1 1 24 (by rfl) (by kernel_rfl)
  obtain ⟨b, hb⟩ := open_strs h0
  obtain ⟨l, hl⟩ := open_ses h1
  exact ⟨c0, c1, b, l, rfl, hb, hl⟩
end Frame
end Go.Proofs.YtiekfipjbmdkpaaGreatDoor
