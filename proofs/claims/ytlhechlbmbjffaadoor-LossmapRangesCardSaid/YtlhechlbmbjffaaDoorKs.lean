/-
  What layer 56's rows list among the package-level variables, a world for the witnesses; images, extents, numbers among the arguments, opened to cells.
-/
import Derived.Test.YtlhechlbmbjffaaDoorCards
import Derived.Test.YtlhechlbmbjffaaDoorTie
import Derived.Test.YtlhechlbmbjffaaDoorShelf
import Derived.WalkKit
import Derived.ProofKit
import Derived.OpenShut
import Derived.ShutString
import Derived.ChangeOld
import Derived.ChangeArms
import Derived.Carry
import Derived.Deep.DeepHandedRow
import Derived.Deep.Slices
import Derived.Lib.LaidTab
import Derived.Test.YtlhechlbmbjffaaDoorJv
namespace Go.Proofs.YtlhechlbmbjffaaDoor
open Go.RowKit
namespace Frame
theorem own : ownKnob Tryd.prog.godebug = none := by kernel_rfl
theorem laidOut : laidOutB Tryd.prog = true := by kernel_rfl
/-- What the rows list. -/
def laid : List (String × DataW Unit) := [("math/bits.deBruijn32tab", Rows.laid_math_bits_deBruijn32tab), ("math/bits.deBruijn64tab", Rows.laid_math_bits_deBruijn64tab), ("internal/strconv.uint64pow10", Rows.laid_internal_strconv_uint64pow10)]
theorem e3 : (Rows.laid_internal_strconv_uint64pow10 : DataW Unit) = Lib.tabData .u64 Lib.pow10Tab := by kernel_rfl
theorem pow {W : World} (h : laidMetH Tryd.prog laid W) : Lm.Pow W := by
  have h' : laidMet Tryd.prog laid W := h
  unfold laid at h'
  obtain ⟨ps, ⟨g1, t1, c1, f1, p1, q1, _, _, _, _, h1, _⟩, _⟩ := h'
  obtain ⟨g2, t2, c2, f2, p2, q2, _, _, _, _, h2, _⟩ := h1
  obtain ⟨g, t, cs, fuel, p, q, hg, ht, hvar, hd, _, _⟩ := h2
  rw [e3] at hd
  have hg' : Tryd.prog.globalNamed "internal/strconv.uint64pow10" = some 1 := by kernel_rfl
  obtain rfl := Option.some.inj (hg'.symm.trans hg)
  have hty : (Tryd.prog.globals[1]?).map (·.type) = some 117 := by kernel_rfl
  obtain rfl := Option.some.inj (hty.symm.trans ht)
  unfold Lm.Pow Lib.TabIs
  rw [hvar, ← Lib.cells_of_tab Tryd.underlying117 Tryd.underlying102 (by kernel_rfl) (by kernel_rfl) hd]
/-- The cells of a listed table. -/
def cellsOf : DataW Unit → Array Value
  | .agg l => (l.map fun | .lit (.int k z) => Value.int k z | _ => undef).toArray
  | _ => #[]
/-- A block's cells put in place of others. -/
def put (cs : Array Value) : Obj → Obj
  | .cells _ t frozen => .cells cs t frozen
  | o => o
/-- The settled world, the tables holding what their initialisers lay. -/
noncomputable def world (os : Os) : World :=
  { World.holding Tryd.prog os ⟨#[], #[], []⟩ with heap := (((World.holding Tryd.prog os ⟨#[], #[], []⟩).heap.modify 2 (put (cellsOf Rows.laid_math_bits_deBruijn32tab))).modify 3 (put (cellsOf Rows.laid_math_bits_deBruijn64tab))).modify 1 (put (cellsOf Rows.laid_internal_strconv_uint64pow10)) }
section
variable {H : Type} {enc : TypeId × Value → H} {w : World} {base : Nat} {spare : Nat → Bool} {held : Bool}
/-- One field of a struct that reads: it reads. -/
theorem field {P : Program} {fs : Array Field} {t : TypeId} {fuel : Nat} {cs : List Value} {x : DataW H × List MemPlace} (ht : P.underlying t = some (.struct fs)) (h : DataW.trod enc P w base spare held fuel t cs = some x)
    (i off k : Nat) (ty : TypeId) (hf : (fs[i]?).map (fun f => (f.offset, f.type)) = some (off, ty)) (hk : P.cellsOf ty = k) : ∃ n y, DataW.trod enc P w base spare held n ty ((cs.drop off).take k) = some y := by
  obtain ⟨xs, n, _, _, _, hlen, hg⟩ := DataW.trod_struct ht h
  cases hfi : fs[i]? with
  | none => rw [hfi] at hf; cases hf
  | some f =>
    rw [hfi] at hf
    simp only [Option.map_some, Option.some.injEq, Prod.mk.injEq] at hf
    have hi : i < xs.length := by rw [hlen]; exact (Array.getElem?_eq_some_iff.1 hfi).1
    have h1 := hg i f hfi
    rw [hf.1, hf.2, hk, List.getElem?_eq_getElem hi] at h1
    exact ⟨n, _, h1⟩
theorem i64_of_wf {z : Int} (h : (Lit.int .i64 z).wf = true) : -9223372036854775808 ≤ z ∧ z ≤ 9223372036854775807 := by
  have h' : (decide (IntKind.min .i64 ≤ z) && decide (z ≤ IntKind.max .i64)) = true := h
  rw [show IntKind.min .i64 = -9223372036854775808 from rfl, show IntKind.max .i64 = 9223372036854775807 from rfl, Bool.and_eq_true, decide_eq_true_eq, decide_eq_true_eq] at h'
  exact h'
theorem intAt {n : Nat} {c : Value} {y : DataW H × List MemPlace} (h : DataW.trod enc Tryd.prog w base spare held n 3 [c] = some y) : ∃ z : Int, c = .int .i64 z ∧ -9223372036854775808 ≤ z ∧ z ≤ 9223372036854775807 := by
  obtain ⟨z, hz, _, hwf⟩ := DataW.trod_int Tryd.underlying3 h
  simp only [List.cons.injEq, and_true] at hz
  exact ⟨z, hz, i64_of_wf hwf⟩
theorem strAt {n : Nat} {c : Value} {y : DataW H × List MemPlace} (h : DataW.trod enc Tryd.prog w base spare held n 9 [c] = some y) : ∃ s : ByteArray, c = .string s := by
  obtain ⟨s, hs, _, _⟩ := DataW.trod_string Tryd.underlying9 h
  simp only [List.cons.injEq, and_true] at hs
  exact ⟨s, hs⟩
/-- The elements of a slice that reads. -/
theorem open_elems {P : Program} {t e : TypeId} {C : Nat} (ht : P.underlying t = some (.slice e)) (hC : P.cellsOf e = C) (h0 : 0 < C) {n : Nat} {c : Value} {y : DataW H × List MemPlace} (h : DataW.trod enc P w base spare held n t [c] = some y) :
    ∃ A len cap, c = .slice A len cap ∧ len ≤ cap ∧ cap ≤ maxLen ∧ (A = none → cap = 0) ∧
      (0 < len → ∃ b o, A = some ⟨b, o, none⟩ ∧ b < w.heap.size ∧ ∀ i, i < len → ∃ cs m x, cs.length = C ∧ (∀ k u, cs[k]? = some u → w.cell? ⟨b, o + i * C + k, none⟩ = some u) ∧ DataW.trod enc P w base spare held m e cs = some x) := by
  rcases Go.Deep.open_slice ht h with ⟨hcs, _⟩ | ⟨a, len, cap, m, n', D, Pl, hcs, _, hle, hmax, hm, _, hall⟩
  · simp only [List.cons.injEq, and_true] at hcs
    exact ⟨none, 0, 0, hcs, Nat.le_refl _, by unfold maxLen; omega, fun _ => rfl, fun h => absurd h (Nat.lt_irrefl 0)⟩
  · simp only [List.cons.injEq, and_true] at hcs
    refine ⟨some a, len, cap, hcs, hle, hmax, (fun h => by cases h), fun hl => ?_⟩
    have hml : len ≤ m := by rw [hm]; split <;> omega
    have hpos : 0 < m := by omega
    have at0 : ∀ i, i < m → ∃ cs x, cs.length = C ∧ (∀ k u, cs[k]? = some u → w.cell? ((a.add (i * C)).add k) = some u) ∧ DataW.trod enc P w base spare held n' e cs = some x := by
      intro i hi
      obtain ⟨cs, hc, ht'⟩ := hall i hi
      rw [hC] at hc
      obtain ⟨_, hcl, hat⟩ := World.cells?_some hc
      refine ⟨cs, _, hcl, fun k u hu => ?_, ht'⟩
      have hk : k < C := by rw [← hcl]; exact (List.getElem?_eq_some_iff.1 hu).1
      rw [hat k hk, hu]
    obtain ⟨b, o, spot⟩ := a
    obtain ⟨cs0, x0, hl0, hc0, _⟩ := at0 0 hpos
    have h00 := hc0 0 (cs0[0]'(by omega)) (List.getElem?_eq_getElem (by omega))
    have hspot : spot = none := by simpa [Addr.add] using World.cell?_spot h00
    subst hspot
    rw [Addr.add_lit, Addr.add_lit] at h00
    refine ⟨b, o, rfl, World.block_lt_of_cell? _ _ h00, fun i hi => ?_⟩
    obtain ⟨cs, x, hcl, hat, ht'⟩ := at0 i (by omega)
    refine ⟨cs, n', x, hcl, fun k u hu => ?_, ht'⟩
    have := hat k u hu
    rwa [Addr.add_lit, Addr.add_lit] at this
/-- An image that reads. -/
theorem open_strs {n : Nat} {c : Value} {y : DataW H × List MemPlace} (h : DataW.trod enc Tryd.prog w base spare held n 23 [c] = some y) : ∃ l : List ByteArray, Kit.RowS w c (Lm.strs l) := by
  obtain ⟨A, len, cap, rfl, hle, hmax, hnone, hel⟩ := open_elems Tryd.underlying23 (show Tryd.prog.cellsOf 9 = 1 by kernel_rfl) (by decide) h
  by_cases hl : 0 < len
  · obtain ⟨b, o, rfl, hb, hx⟩ := hel hl
    have : Inhabited ByteArray := ⟨⟨#[]⟩⟩
    obtain ⟨f, hf⟩ := Go.Deep.choose_lt (α := ByteArray) (n := len) (p := fun i s => w.cell? ⟨b, o + i, none⟩ = some (.string s)) (fun i hi => by
      obtain ⟨cs, m, x, hcl, hat, ht⟩ := hx i hi
      obtain ⟨c, rfl⟩ : ∃ c, cs = [c] := by
        match cs, hcl with
        | [c], _ => exact ⟨c, rfl⟩
      obtain ⟨s, rfl⟩ := strAt ht
      have := hat 0 _ rfl
      rw [Nat.mul_one] at this
      exact ⟨s, this⟩)
    have hlen : ((List.range len).map f).length = len := by simp
    refine ⟨(List.range len).map f, ⟨some ⟨b, o, none⟩, cap, by rw [Lm.strs_length, hlen], by rw [Lm.strs_length, hlen]; exact hle, hmax, fun _ => ⟨b, o, rfl, hb, fun j u hu => ?_⟩⟩, fun n c h => by cases h⟩
    have hj : j < len := by have := (List.getElem?_eq_some_iff.1 hu).1; rwa [Lm.strs_length, hlen] at this
    rw [hf j hj, ← hu]
    simp [Lm.strs, hj]
  · obtain rfl : len = 0 := by omega
    exact ⟨[], ⟨A, cap, rfl, Nat.zero_le _, hmax, fun h => by simp [Lm.strs] at h⟩, fun n c h => by cases h; exact hnone rfl⟩
/-- An extent that reads. -/
theorem open_file {n : Nat} {cs : List Value} {x : DataW H × List MemPlace} (hl : cs.length = 3) (h : DataW.trod enc Tryd.prog w base spare held n 41 cs = some x) : ∃ f : Lm.F, cs = Lm.fC f := by
  obtain ⟨c0, c1, c2, rfl⟩ : ∃ c0 c1 c2, cs = [c0, c1, c2] := by
    match cs, hl with
    | [c0, c1, c2], _ => exact ⟨c0, c1, c2, rfl⟩
  have hs := Tryd.underlying41
  have ki : Tryd.prog.cellsOf 3 = 1 := by kernel_rfl
  have kt : Tryd.prog.cellsOf 9 = 1 := by kernel_rfl
  obtain ⟨_, _, h0⟩ := field hs h 0 0 1 9 (by rfl) kt
  obtain ⟨_, _, h1⟩ := field hs h 1 1 1 3 (by rfl) ki
  obtain ⟨_, _, h2⟩ := field hs h 2 2 1 3 (by rfl) ki
  obtain ⟨s, rfl⟩ := strAt h0
  obtain ⟨z1, rfl, _⟩ := intAt h1
  obtain ⟨z2, rfl, _⟩ := intAt h2
  exact ⟨⟨s, z1, z2⟩, rfl⟩
theorem open_fs {n : Nat} {c : Value} {y : DataW H × List MemPlace} (h : DataW.trod enc Tryd.prog w base spare held n 24 [c] = some y) : ∃ l, Lm.Files w c l := by
  obtain ⟨A, len, cap, rfl, hle, hmax, hnone, hel⟩ := open_elems Tryd.underlying24 (show Tryd.prog.cellsOf 41 = 3 by kernel_rfl) (by decide) h
  by_cases hl : 0 < len
  · obtain ⟨b, o, rfl, hb, hx⟩ := hel hl
    have : Inhabited Lm.F := ⟨Lm.f0⟩
    obtain ⟨f, hf⟩ := Go.Deep.choose_lt (α := Lm.F) (n := len) (p := fun i z => ∀ k u, (Lm.fC z)[k]? = some u → w.cell? ⟨b, o + i * 3 + k, none⟩ = some u) (fun i hi => by
      obtain ⟨cs, m, x, hcl, hat, ht⟩ := hx i hi
      obtain ⟨p, rfl⟩ := open_file hcl ht
      exact ⟨p, hat⟩)
    have hlen : ((List.range len).map f).length = len := by simp
    have hg : ∀ j, j < len → ((List.range len).map f).getD j Lm.f0 = f j := fun j hj => by simp [List.getD, hj]
    refine ⟨(List.range len).map f, some ⟨b, o, none⟩, cap, by rw [hlen], by rw [hlen]; exact hle, hmax, fun _ => ⟨b, o, rfl, hb, fun j hj k u hu => ?_⟩⟩
    rw [hlen] at hj
    have hu' : (Lm.fC (((List.range len).map f).getD j Lm.f0))[k]? = some u := hu
    rw [hg j hj] at hu'
    exact hf j hj k u hu'
  · obtain rfl : len = 0 := by omega
    exact ⟨[], A, cap, rfl, Nat.zero_le _, hmax, fun h => absurd h (by decide)⟩
/-- A number of 16 bits that reads. -/
theorem u16At {n : Nat} {c : Value} {y : DataW H × List MemPlace} (h : DataW.trod enc Tryd.prog w base spare held n 44 [c] = some y) : ∃ z : Nat, c = .int .u16 (z : Int) ∧ z < 65536 := by
  obtain ⟨z, hz, _, hwf⟩ := DataW.trod_int Tryd.underlying44 h
  simp only [List.cons.injEq, and_true] at hz
  have h' : (decide (IntKind.min .u16 ≤ z) && decide (z ≤ IntKind.max .u16)) = true := hwf
  rw [show IntKind.min .u16 = 0 from rfl, show IntKind.max .u16 = 65535 from rfl, Bool.and_eq_true, decide_eq_true_eq, decide_eq_true_eq] at h'
  exact ⟨z.toNat, by rw [hz, Int.toNat_of_nonneg h'.1], by omega⟩
theorem open_us {n : Nat} {c : Value} {y : DataW H × List MemPlace} (h : DataW.trod enc Tryd.prog w base spare held n 42 [c] = some y) : ∃ l : List Nat, Kit.Row w c (l.map fun (d : Nat) => Value.int .u16 (d : Int)) ∧ ∀ d ∈ l, d < 65536 := by
  obtain ⟨A, len, cap, rfl, hle, hmax, hnone, hel⟩ := open_elems Tryd.underlying42 (show Tryd.prog.cellsOf 44 = 1 by kernel_rfl) (by decide) h
  by_cases hl : 0 < len
  · obtain ⟨b, o, rfl, hb, hx⟩ := hel hl
    obtain ⟨f, hf⟩ := Go.Deep.choose_lt (α := Nat) (n := len) (p := fun i z => w.cell? ⟨b, o + i, none⟩ = some (.int .u16 (z : Int)) ∧ z < 65536) (fun i hi => by
      obtain ⟨cs, m, x, hcl, hat, ht⟩ := hx i hi
      obtain ⟨c, rfl⟩ : ∃ c, cs = [c] := by
        match cs, hcl with
        | [c], _ => exact ⟨c, rfl⟩
      obtain ⟨z, rfl, hz⟩ := u16At ht
      have := hat 0 _ rfl
      rw [Nat.mul_one] at this
      exact ⟨z, this, hz⟩)
    have hlen : (((List.range len).map f).map fun (d : Nat) => Value.int .u16 (d : Int)).length = len := by simp
    refine ⟨(List.range len).map f, ⟨some ⟨b, o, none⟩, cap, by rw [hlen], by rw [hlen]; exact hle, hmax, fun _ => ⟨b, o, rfl, hb, fun j u hu => ?_⟩⟩, fun z hz => ?_⟩
    · have hj : j < len := by have := (List.getElem?_eq_some_iff.1 hu).1; rwa [hlen] at this
      rw [(hf j hj).1, ← hu]
      simp [hj]
    · obtain ⟨i, hi, rfl⟩ := List.mem_map.1 hz
      exact (hf i (by simpa using hi)).2
  · obtain rfl : len = 0 := by omega
    exact ⟨[], ⟨A, cap, rfl, Nat.zero_le _, hmax, fun h => by simp at h⟩, fun z hz => by cases hz⟩
end
set_option maxRecDepth 100000 in
theorem open_u16s {H : Type} {enc : TypeId × Value → H} {base : Nat} (W : World) (v : Value) (d : DataW H) (p : List MemPlace) (hval : Value.okWide Tryd.prog W .any base 42 v)
    (h : DataW.Trod enc Tryd.prog W 0 (fun _ => true) true 42 v d p) : ∃ l : List Nat, Kit.Row W v (l.map fun (d : Nat) => Value.int .u16 (d : Int)) ∧ ∀ d ∈ l, d < 65536 := by
  obtain ⟨a0, len0, cap0, rfl⟩ := Go.WideShapes.okWide_slice Tryd.underlying42 hval
  obtain ⟨fuel, hf⟩ := h
  have hf' : DataW.trod enc Tryd.prog W 0 (fun _ => true) true fuel 42 [.slice a0 len0 cap0] = some (d, p) := hf
  exact open_us hf'
set_option maxRecDepth 100000 in
/-- The same for an argument. -/
theorem open_image {H : Type} {enc : TypeId × Value → H} {base : Nat} (W : World) (v : Value) (d : DataW H) (p : List MemPlace) (hval : Value.okWide Tryd.prog W .any base 23 v)
    (h : DataW.Trod enc Tryd.prog W 0 (fun _ => true) true 23 v d p) : ∃ l : List ByteArray, Kit.RowS W v (Lm.strs l) := by
  obtain ⟨a0, len0, cap0, rfl⟩ := Go.WideShapes.okWide_slice Tryd.underlying23 hval
  obtain ⟨fuel, hf⟩ := h
  have hf' : DataW.trod enc Tryd.prog W 0 (fun _ => true) true fuel 23 [.slice a0 len0 cap0] = some (d, p) := hf
  exact open_strs hf'
set_option maxRecDepth 100000 in
theorem open_files {H : Type} {enc : TypeId × Value → H} {base : Nat} (W : World) (v : Value) (d : DataW H) (p : List MemPlace) (hval : Value.okWide Tryd.prog W .any base 24 v)
    (h : DataW.Trod enc Tryd.prog W 0 (fun _ => true) true 24 v d p) : ∃ l, Lm.Files W v l := by
  obtain ⟨a0, len0, cap0, rfl⟩ := Go.WideShapes.okWide_slice Tryd.underlying24 hval
  obtain ⟨fuel, hf⟩ := h
  have hf' : DataW.trod enc Tryd.prog W 0 (fun _ => true) true fuel 24 [.slice a0 len0 cap0] = some (d, p) := hf
  exact open_fs hf'
end Frame
end Go.Proofs.YtlhechlbmbjffaaDoor
