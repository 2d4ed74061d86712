/-
  What the rows' list of package-level variables gives, and a world for the witnesses: the two tables of unicode/utf8.
-/
import Derived.Test.YtlcdhlfkffkifaaGreatDoorCards
import Derived.Test.YtlcdhlfkffkifaaGreatDoorTie
import Derived.Test.YtlcdhlfkffkifaaGreatDoorShelf
import Derived.WalkKit
import Derived.ProofKit
import Derived.OpenShut
import Derived.ShutString
import Derived.ChangeOld
import Derived.Deep.DeepHandedRow
import Derived.Lib.LaidTab
import Derived.Lib.LaidU8
import Derived.Test.YtlcdhlfkffkifaaGreatDoorZB
import Derived.Deep.Slices
import Derived.ChangeArms
namespace Go.Proofs.YtlcdhlfkffkifaaGreatDoor
open Go.RowKit
namespace Frame

theorem own : ownKnob Tryz.prog.godebug = none := by kernel_rfl
theorem laidOut : laidOutB Tryz.prog = true := by kernel_rfl

/-- What the rows list. -/
def laid : List (String × DataW Unit) := [("unicode/utf8.acceptRanges", Rows.laid_unicode_utf8_acceptRanges), ("unicode/utf8.first", Rows.laid_unicode_utf8_first)]

theorem u8 : U8Extra Tryz.prog Tryz.lays260_ren := {
  n3 := by kernel_rfl
  n4 := by kernel_rfl
  y3 := by kernel_rfl
  y4 := by kernel_rfl
  c5 := by kernel_rfl
  c119 := by kernel_rfl
  c138 := by kernel_rfl }

theorem e1 : (Rows.laid_unicode_utf8_acceptRanges : DataW Unit) = Lib.acceptData := by kernel_rfl
theorem e2 : (Rows.laid_unicode_utf8_first : DataW Unit) = Lib.firstData := by kernel_rfl

theorem tabs {W : World} (h : laidMetH Tryz.prog laid W) : Lib.Utf8Tabs 1 2 W := by
  have h' : laidMet Tryz.prog laid W := h
  unfold laid at h'
  rw [e1, e2] at h'
  exact utf8Tabs_of_reads Tryz.lays260 u8 (Lib.laidMet.reads h' (by simp)) (Lib.laidMet.reads h' (by simp))

/-- The tables' cells. -/
def firstCells : Array Value := ((List.range 256).map fun c => Value.int .u8 (Lib.firstT c : Nat)).toArray
def acceptCells : Array Value := ((List.range 16).flatMap fun i => [Value.int .u8 (Lib.accLo i : Nat), Value.int .u8 (Lib.accHi i : Nat)]).toArray

/-- A block's cells put in place of others. -/
def put (cs : Array Value) : Obj → Obj
  | .cells _ t frozen => .cells cs t frozen
  | o => o

/-- The settled world, the two tables holding what their initialisers lay. -/
noncomputable def world (os : Os) : World :=
  { World.holding Tryz.prog os ⟨#[], #[], []⟩ with heap := ((World.holding Tryz.prog os ⟨#[], #[], []⟩).heap.modify 1 (put firstCells)).modify 2 (put acceptCells) }
end Frame
end Go.Proofs.YtlcdhlfkffkifaaGreatDoor

/-
  The cell of internal/bytealg.MaxLen, by the row's shape.
-/
namespace Go.Proofs.YtlcdhlfkffkifaaGreatDoor
open Go.RowKit
namespace Frame
theorem maxlen {W : World} (h : W.ShapedOpen Tryz.prog) : ∃ m : Int, W.cell? ⟨0, 0, none⟩ = some (.int .i64 m) :=
  Go.Proofs.cell_of_shapedOpen_int (zero := #[.int .i64 0]) (t := 3) h (of_decide_eq_true (by kernel_rfl)) (by kernel_rfl) rfl (by kernel_rfl) (by kernel_rfl) Tryz.underlying3
end Frame
end Go.Proofs.YtlcdhlfkffkifaaGreatDoor

/-
  Slices of structs among the arguments, opened to cells; slices of partition maps.
-/
namespace Go.Proofs.YtlcdhlfkffkifaaGreatDoor
open Go.RowKit
namespace Frame
section
variable {H : Type} {enc : TypeId × Value → H} {w : World} {base : Nat} {spare : Nat → Bool} {held : Bool}

theorem i64_of_wf {z : Int} (h : (Lit.int .i64 z).wf = true) : -9223372036854775808 ≤ z ∧ z ≤ 9223372036854775807 := by
  have h' : (decide (IntKind.min .i64 ≤ z) && decide (z ≤ IntKind.max .i64)) = true := h
  rw [show IntKind.min .i64 = -9223372036854775808 from rfl, show IntKind.max .i64 = 9223372036854775807 from rfl, Bool.and_eq_true, decide_eq_true_eq, decide_eq_true_eq] at h'
  exact h'
/-- One field of a struct that reads: it reads. -/
theorem field {P : Program} {fs : Array Field} {t : TypeId} {fuel : Nat} {cs : List Value} {x : DataW H × List MemPlace} (ht : P.underlying t = some (.struct fs)) (h : DataW.trod enc P w base spare held fuel t cs = some x)
    (i off k : Nat) (ty : TypeId) (hf : (fs[i]?).map (fun f => (f.offset, f.type)) = some (off, ty)) (hk : P.cellsOf ty = k) : ∃ n y, DataW.trod enc P w base spare held n ty ((cs.drop off).take k) = some y := by
  obtain ⟨xs, n, _, _, _, hlen, hg⟩ := DataW.trod_struct ht h
  cases hfi : fs[i]? with
  | none => rw [hfi] at hf; cases hf
  | some f =>
    rw [hfi] at hf
    simp only [Option.map_some, Option.some.injEq, Prod.mk.injEq] at hf
    have hi : i < xs.length := by rw [hlen]; exact (Array.getElem?_eq_some_iff.1 hfi).1
    have h1 := hg i f hfi
    rw [hf.1, hf.2, hk, List.getElem?_eq_getElem hi] at h1
    exact ⟨n, _, h1⟩
/-- An int that reads. -/
theorem intAt {n : Nat} {c : Value} {y : DataW H × List MemPlace} (h : DataW.trod enc Tryz.prog w base spare held n 3 [c] = some y) : ∃ z : Int, c = .int .i64 z ∧ -9223372036854775808 ≤ z ∧ z ≤ 9223372036854775807 := by
  obtain ⟨z, hz, _, hwf⟩ := DataW.trod_int Tryz.underlying3 h
  simp only [List.cons.injEq, and_true] at hz
  exact ⟨z, hz, i64_of_wf hwf⟩
/-- The elements of a slice that reads. -/
theorem open_elems {P : Program} {t e : TypeId} {C : Nat} (ht : P.underlying t = some (.slice e)) (hC : P.cellsOf e = C) (h0 : 0 < C) {n : Nat} {c : Value} {y : DataW H × List MemPlace} (h : DataW.trod enc P w base spare held n t [c] = some y) :
    ∃ A len cap, c = .slice A len cap ∧ len ≤ cap ∧ cap ≤ maxLen ∧ (A = none → cap = 0) ∧
      (0 < len → ∃ b o, A = some ⟨b, o, none⟩ ∧ b < w.heap.size ∧ ∀ i, i < len → ∃ cs m x, cs.length = C ∧ (∀ k u, cs[k]? = some u → w.cell? ⟨b, o + i * C + k, none⟩ = some u) ∧ DataW.trod enc P w base spare held m e cs = some x) := by
  rcases Go.Deep.open_slice ht h with ⟨hcs, _⟩ | ⟨a, len, cap, m, n', D, Pl, hcs, _, hle, hmax, hm, _, hall⟩
  · simp only [List.cons.injEq, and_true] at hcs
    exact ⟨none, 0, 0, hcs, Nat.le_refl _, by unfold maxLen; omega, fun _ => rfl, fun h => absurd h (Nat.lt_irrefl 0)⟩
  · simp only [List.cons.injEq, and_true] at hcs
    refine ⟨some a, len, cap, hcs, hle, hmax, (fun h => by cases h), fun hl => ?_⟩
    have hml : len ≤ m := by rw [hm]; split <;> omega
    have hpos : 0 < m := by omega
    have at0 : ∀ i, i < m → ∃ cs x, cs.length = C ∧ (∀ k u, cs[k]? = some u → w.cell? ((a.add (i * C)).add k) = some u) ∧ DataW.trod enc P w base spare held n' e cs = some x := by
      intro i hi
      obtain ⟨cs, hc, ht'⟩ := hall i hi
      rw [hC] at hc
      obtain ⟨_, hcl, hat⟩ := World.cells?_some hc
      refine ⟨cs, _, hcl, fun k u hu => ?_, ht'⟩
      have hk : k < C := by rw [← hcl]; exact (List.getElem?_eq_some_iff.1 hu).1
      rw [hat k hk, hu]
    obtain ⟨b, o, spot⟩ := a
    obtain ⟨cs0, x0, hl0, hc0, _⟩ := at0 0 hpos
    have h00 := hc0 0 (cs0[0]'(by omega)) (List.getElem?_eq_getElem (by omega))
    have hspot : spot = none := by simpa [Addr.add] using World.cell?_spot h00
    subst hspot
    rw [Addr.add_lit, Addr.add_lit] at h00
    refine ⟨b, o, rfl, World.block_lt_of_cell? _ _ h00, fun i hi => ?_⟩
    obtain ⟨cs, x, hcl, hat, ht'⟩ := at0 i (by omega)
    refine ⟨cs, n', x, hcl, fun k u hu => ?_, ht'⟩
    have := hat k u hu
    rwa [Addr.add_lit, Addr.add_lit] at this
/-- A slice of ints that reads. -/
theorem open_rowS {n : Nat} {c : Value} {y : DataW H × List MemPlace} (h : DataW.trod enc Tryz.prog w base spare held n 32 [c] = some y) : ∃ xs : List Int, Kit.RowS w c (Kit.izs xs) ∧ ∀ z ∈ xs, -9223372036854775808 ≤ z ∧ z ≤ 9223372036854775807 := by
  obtain ⟨A, len, cap, rfl, hle, hmax, hnone, hel⟩ := open_elems Tryz.underlying32 (show Tryz.prog.cellsOf 3 = 1 by kernel_rfl) (by decide) h
  by_cases hl : 0 < len
  · obtain ⟨b, o, rfl, hb, hx⟩ := hel hl
    obtain ⟨f, hf⟩ := Go.Deep.choose_lt (α := Int) (n := len) (p := fun i z => w.cell? ⟨b, o + i, none⟩ = some (.int .i64 z) ∧ -9223372036854775808 ≤ z ∧ z ≤ 9223372036854775807) (fun i hi => by
      obtain ⟨cs, m, x, hcl, hat, ht⟩ := hx i hi
      obtain ⟨c, rfl⟩ : ∃ c, cs = [c] := by
        match cs, hcl with
        | [c], _ => exact ⟨c, rfl⟩
      obtain ⟨z, rfl, hz⟩ := intAt ht
      have := hat 0 _ rfl
      rw [Nat.mul_one] at this
      exact ⟨z, this, hz⟩)
    have hlen : ((List.range len).map f).length = len := by simp
    refine ⟨(List.range len).map f, ⟨⟨some ⟨b, o, none⟩, cap, by rw [Kit.izs_length, hlen], by rw [Kit.izs_length, hlen]; exact hle, hmax, fun _ => ⟨b, o, rfl, hb, fun j u hu => ?_⟩⟩, fun n c h => by cases h⟩, fun z hz => ?_⟩
    · have hj : j < len := by have := (List.getElem?_eq_some_iff.1 hu).1; rwa [Kit.izs_length, hlen] at this
      rw [(hf j hj).1]
      rw [← hu]
      simp [Kit.izs, hj]
    · obtain ⟨i, hi, rfl⟩ := List.mem_map.1 hz
      exact (hf i (by simpa using hi)).2
  · obtain rfl : len = 0 := by omega
    exact ⟨[], ⟨⟨A, cap, rfl, Nat.zero_le _, hmax, fun h => by simp [Kit.izs] at h⟩, fun n c h => by cases h; exact hnone rfl⟩, fun z hz => by cases hz⟩
/-- A partition map that reads. -/
theorem open_pm {n : Nat} {cs : List Value} {x : DataW H × List MemPlace} (hl : cs.length = 6) (h : DataW.trod enc Tryz.prog w base spare held n 59 cs = some x) :
    ∃ (p : Pm.M) (tv : Value), cs = Pm.pmC p tv ∧ Kit.RowS w tv (Kit.izs p.tables) ∧ Pm.I64 p := by
  obtain ⟨c0, c1, c2, c3, c4, c5, rfl⟩ : ∃ c0 c1 c2 c3 c4 c5, cs = [c0, c1, c2, c3, c4, c5] := by
    match cs, hl with
    | [c0, c1, c2, c3, c4, c5], _ => exact ⟨c0, c1, c2, c3, c4, c5, rfl⟩
  have hs := Tryz.underlying59
  have ki : Tryz.prog.cellsOf 3 = 1 := by kernel_rfl
  have kt : Tryz.prog.cellsOf 32 = 1 := by kernel_rfl
  obtain ⟨_, _, h0⟩ := field hs h 0 0 1 3 (by rfl) ki
  obtain ⟨_, _, h1⟩ := field hs h 1 1 1 3 (by rfl) ki
  obtain ⟨_, _, h2⟩ := field hs h 2 2 1 32 (by rfl) kt
  obtain ⟨_, _, h3⟩ := field hs h 3 3 1 3 (by rfl) ki
  obtain ⟨_, _, h4⟩ := field hs h 4 4 1 3 (by rfl) ki
  obtain ⟨_, _, h5⟩ := field hs h 5 5 1 3 (by rfl) ki
  obtain ⟨z0, rfl, b0⟩ := intAt h0
  obtain ⟨z1, rfl, b1⟩ := intAt h1
  obtain ⟨ts, hr, _⟩ := open_rowS h2
  obtain ⟨z3, rfl, b3⟩ := intAt h3
  obtain ⟨z4, rfl, b4⟩ := intAt h4
  obtain ⟨z5, rfl, b5⟩ := intAt h5
  exact ⟨⟨z0, z1, ts, z3, z4, z5⟩, c2, rfl, hr, b0, b1, b3, b4, b5⟩
/-- A slice of partition maps that reads. -/
theorem open_maps {n : Nat} {c : Value} {y : DataW H × List MemPlace} (h : DataW.trod enc Tryz.prog w base spare held n 22 [c] = some y) : ∃ l T, Pm.MapsAt w c l T := by
  obtain ⟨A, len, cap, rfl, hle, hmax, hnone, hel⟩ := open_elems Tryz.underlying22 (show Tryz.prog.cellsOf 59 = 6 by kernel_rfl) (by decide) h
  by_cases hl : 0 < len
  · obtain ⟨b, o, rfl, hb, hx⟩ := hel hl
    have : Inhabited (Pm.M × Value) := ⟨(Pm.none, .slice none 0 0)⟩
    obtain ⟨f, hf⟩ := Go.Deep.choose_lt (α := Pm.M × Value) (n := len) (p := fun i z => (∀ k u, (Pm.pmC z.1 z.2)[k]? = some u → w.cell? ⟨b, o + i * 6 + k, none⟩ = some u) ∧ Kit.RowS w z.2 (Kit.izs z.1.tables) ∧ Pm.I64 z.1) (fun i hi => by
      obtain ⟨cs, m, x, hcl, hat, ht⟩ := hx i hi
      obtain ⟨p, tv, rfl, hr, hi64⟩ := open_pm hcl ht
      exact ⟨(p, tv), hat, hr, hi64⟩)
    have hlen : ((List.range len).map fun i => (f i).1).length = len := by simp
    have hg : ∀ j, j < len → ((List.range len).map fun i => (f i).1).getD j Pm.none = (f j).1 := fun j hj => by simp [List.getD, hj]
    refine ⟨(List.range len).map fun i => (f i).1, fun i => (f i).2, ⟨some ⟨b, o, none⟩, cap, by rw [hlen], by rw [hlen]; exact hle, hmax, fun _ => ⟨b, o, rfl, hb, fun j hj k u hu => ?_⟩⟩, fun j hj => ?_, fun j hj => ?_⟩
    · rw [hlen] at hj
      have hu' : (Pm.pmC (((List.range len).map fun i => (f i).1).getD j Pm.none) (f j).2)[k]? = some u := hu
      rw [hg j hj] at hu'
      exact (hf j hj).1 k u hu'
    · rw [hlen] at hj
      rw [hg j hj]
      exact (hf j hj).2.1
    · rw [hlen] at hj
      rw [hg j hj]
      exact (hf j hj).2.2
  · obtain rfl : len = 0 := by omega
    exact ⟨[], fun _ => .slice none 0 0, ⟨A, cap, rfl, Nat.zero_le _, hmax, fun h => absurd h (by decide)⟩, fun j hj => absurd hj (by simp), fun j hj => absurd hj (by simp)⟩
end
set_option maxRecDepth 100000 in
/-- The same for an argument. -/
theorem open_pms {H : Type} {enc : TypeId × Value → H} {base : Nat} (W : World) (v : Value) (d : DataW H) (p : List MemPlace) (hval : Value.okWide Tryz.prog W .any base 22 v)
    (h : DataW.Trod enc Tryz.prog W 0 (fun _ => true) true 22 v d p) : ∃ l T, Pm.MapsAt W v l T := by
  obtain ⟨a0, len0, cap0, rfl⟩ := Go.WideShapes.okWide_slice Tryz.underlying22 hval
  obtain ⟨fuel, hf⟩ := h
  have hf' : DataW.trod enc Tryz.prog W 0 (fun _ => true) true fuel 22 [.slice a0 len0 cap0] = some (d, p) := hf
  exact open_maps hf'
set_option maxRecDepth 100000 in
/-- The same for a slice of ints. -/
theorem open_l2 {H : Type} {enc : TypeId × Value → H} {base : Nat} (W : World) (v : Value) (d : DataW H) (p : List MemPlace) (hval : Value.okWide Tryz.prog W .any base 32 v)
    (h : DataW.Trod enc Tryz.prog W 0 (fun _ => true) true 32 v d p) : ∃ xs : List Int, Kit.RowS W v (Kit.izs xs) ∧ ∀ z ∈ xs, -9223372036854775808 ≤ z ∧ z ≤ 9223372036854775807 := by
  obtain ⟨a0, len0, cap0, rfl⟩ := Go.WideShapes.okWide_slice Tryz.underlying32 hval
  obtain ⟨fuel, hf⟩ := h
  have hf' : DataW.trod enc Tryz.prog W 0 (fun _ => true) true fuel 32 [.slice a0 len0 cap0] = some (d, p) := hf
  exact open_rowS hf'
end Frame
end Go.Proofs.YtlcdhlfkffkifaaGreatDoor
