/-
  Structs, slices and an array among the arguments of layer 36's laws, opened: strings, ints, file sets, integrity contents, three bytes.
-/
import Derived.Test.YthkppbimkjmbnaaGreatDoorZO
import Derived.Test.YthkppbimkjmbnaaGreatDoorZg
import Derived.Laws.IdiomArrays
namespace Go.Proofs.YthkppbimkjmbnaaGreatDoor
open Go.RowKit
namespace Frame
section
variable {H : Type} {enc : TypeId × Value → H} {w : World} {base : Nat} {spare : Nat → Bool} {held : Bool}
/-- The elements of a slice that reads. -/
theorem open_elems {P : Program} {t e : TypeId} {C : Nat} (ht : P.underlying t = some (.slice e)) (hC : P.cellsOf e = C) (h0 : 0 < C) {n : Nat} {c : Value} {y : DataW H × List MemPlace} (h : DataW.trod enc P w base spare held n t [c] = some y) :
    ∃ A len cap, c = .slice A len cap ∧ len ≤ cap ∧ cap ≤ maxLen ∧ (A = none → cap = 0) ∧
      (0 < len → ∃ b o, A = some ⟨b, o, none⟩ ∧ b < w.heap.size ∧ ∀ i, i < len → ∃ cs m x, cs.length = C ∧ (∀ k u, cs[k]? = some u → w.cell? ⟨b, o + i * C + k, none⟩ = some u) ∧ DataW.trod enc P w base spare held m e cs = some x) := by
  rcases Go.Deep.open_slice ht h with ⟨hcs, _⟩ | ⟨a, len, cap, m, n', D, Pl, hcs, _, hle, hmax, hm, _, hall⟩
  · simp only [List.cons.injEq, and_true] at hcs
    exact ⟨none, 0, 0, hcs, Nat.le_refl _, by unfold maxLen; omega, fun _ => rfl, fun h => absurd h (Nat.lt_irrefl 0)⟩
  · simp only [List.cons.injEq, and_true] at hcs
    refine ⟨some a, len, cap, hcs, hle, hmax, (fun h => by cases h), fun hl => ?_⟩
    have hml : len ≤ m := by rw [hm]; split <;> omega
    have hpos : 0 < m := by omega
    have at0 : ∀ i, i < m → ∃ cs x, cs.length = C ∧ (∀ k u, cs[k]? = some u → w.cell? ((a.add (i * C)).add k) = some u) ∧ DataW.trod enc P w base spare held n' e cs = some x := by
      intro i hi
      obtain ⟨cs, hc, ht'⟩ := hall i hi
      rw [hC] at hc
      obtain ⟨_, hcl, hat⟩ := World.cells?_some hc
      refine ⟨cs, _, hcl, fun k u hu => ?_, ht'⟩
      have hk : k < C := by rw [← hcl]; exact (List.getElem?_eq_some_iff.1 hu).1
      rw [hat k hk, hu]
    obtain ⟨b, o, spot⟩ := a
    obtain ⟨cs0, x0, hl0, hc0, _⟩ := at0 0 hpos
    have h00 := hc0 0 (cs0[0]'(by omega)) (List.getElem?_eq_getElem (by omega))
    have hspot : spot = none := by simpa [Addr.add] using World.cell?_spot h00
    subst hspot
    rw [Addr.add_lit, Addr.add_lit] at h00
    refine ⟨b, o, rfl, World.block_lt_of_cell? _ _ h00, fun i hi => ?_⟩
    obtain ⟨cs, x, hcl, hat, ht'⟩ := at0 i (by omega)
    refine ⟨cs, n', x, hcl, fun k u hu => ?_, ht'⟩
    have := hat k u hu
    rwa [Addr.add_lit, Addr.add_lit] at this
/-- A slice of ints that reads. -/
theorem open_rowS {n : Nat} {c : Value} {y : DataW H × List MemPlace} (h : DataW.trod enc Tryz.prog w base spare held n 34 [c] = some y) : ∃ xs : List Int, Kit.RowS w c (Kit.izs xs) ∧ ∀ z ∈ xs, -9223372036854775808 ≤ z ∧ z ≤ 9223372036854775807 := by
  obtain ⟨A, len, cap, rfl, hle, hmax, hnone, hel⟩ := open_elems Tryz.underlying34 (show Tryz.prog.cellsOf 3 = 1 by kernel_rfl) (by decide) h
  by_cases hl : 0 < len
  · obtain ⟨b, o, rfl, hb, hx⟩ := hel hl
    obtain ⟨f, hf⟩ := Go.Deep.choose_lt (α := Int) (n := len) (p := fun i z => w.cell? ⟨b, o + i, none⟩ = some (.int .i64 z) ∧ -9223372036854775808 ≤ z ∧ z ≤ 9223372036854775807) (fun i hi => by
      obtain ⟨cs, m, x, hcl, hat, ht⟩ := hx i hi
      obtain ⟨c, rfl⟩ : ∃ c, cs = [c] := by
        match cs, hcl with
        | [c], _ => exact ⟨c, rfl⟩
      obtain ⟨z, rfl, hz⟩ := intAt ht
      have := hat 0 _ rfl
      rw [Nat.mul_one] at this
      exact ⟨z, this, hz⟩)
    have hlen : ((List.range len).map f).length = len := by simp
    refine ⟨(List.range len).map f, ⟨⟨some ⟨b, o, none⟩, cap, by rw [Kit.izs_length, hlen], by rw [Kit.izs_length, hlen]; exact hle, hmax, fun _ => ⟨b, o, rfl, hb, fun j u hu => ?_⟩⟩, fun n c h => by cases h⟩, fun z hz => ?_⟩
    · have hj : j < len := by have := (List.getElem?_eq_some_iff.1 hu).1; rwa [Kit.izs_length, hlen] at this
      rw [(hf j hj).1]
      rw [← hu]
      simp [Kit.izs, hj]
    · obtain ⟨i, hi, rfl⟩ := List.mem_map.1 hz
      exact (hf i (by simpa using hi)).2
  · obtain rfl : len = 0 := by omega
    exact ⟨[], ⟨⟨A, cap, rfl, Nat.zero_le _, hmax, fun h => by simp [Kit.izs] at h⟩, fun n c h => by cases h; exact hnone rfl⟩, fun z hz => by cases hz⟩
/-- A slice of strings that reads. -/
theorem open_strs {n : Nat} {c : Value} {y : DataW H × List MemPlace} (h : DataW.trod enc Tryz.prog w base spare held n 31 [c] = some y) : ∃ l : List ByteArray, Kit.RowS w c (Vs.strs l) := by
  obtain ⟨A, len, cap, rfl, hle, hmax, hnone, hel⟩ := open_elems Tryz.underlying31 (show Tryz.prog.cellsOf 9 = 1 by kernel_rfl) (by decide) h
  by_cases hl : 0 < len
  · obtain ⟨b, o, rfl, hb, hx⟩ := hel hl
    have : Inhabited ByteArray := ⟨⟨#[]⟩⟩
    obtain ⟨f, hf⟩ := Go.Deep.choose_lt (α := ByteArray) (n := len) (p := fun i s => w.cell? ⟨b, o + i, none⟩ = some (.string s)) (fun i hi => by
      obtain ⟨cs, m, x, hcl, hat, ht⟩ := hx i hi
      obtain ⟨c, rfl⟩ : ∃ c, cs = [c] := by
        match cs, hcl with
        | [c], _ => exact ⟨c, rfl⟩
      obtain ⟨s, rfl⟩ := strAt ht
      have := hat 0 _ rfl
      rw [Nat.mul_one] at this
      exact ⟨s, this⟩)
    have hlen : ((List.range len).map f).length = len := by simp
    refine ⟨(List.range len).map f, ⟨some ⟨b, o, none⟩, cap, by rw [Vs.strs_len, hlen], by rw [Vs.strs_len, hlen]; exact hle, hmax, fun _ => ⟨b, o, rfl, hb, fun j u hu => ?_⟩⟩, fun n c h => by cases h⟩
    have hj : j < len := by have := (List.getElem?_eq_some_iff.1 hu).1; rwa [Vs.strs_len, hlen] at this
    rw [hf j hj, ← hu]
    simp [Vs.strs, hj]
  · obtain rfl : len = 0 := by omega
    exact ⟨[], ⟨A, cap, rfl, Nat.zero_le _, hmax, fun h => by simp [Vs.strs] at h⟩, fun n c h => by cases h; exact hnone rfl⟩
/-- A bool that reads; a byte. -/
theorem boolAt {n : Nat} {c : Value} {y : DataW H × List MemPlace} (h : DataW.trod enc Tryz.prog w base spare held n 4 [c] = some y) : ∃ b : Bool, c = .bool b := by
  obtain ⟨b, hb, _⟩ := DataW.trod_bool Tryz.underlying4 h
  simp only [List.cons.injEq, and_true] at hb
  exact ⟨b, hb⟩
theorem u8At {n : Nat} {c : Value} {y : DataW H × List MemPlace} (h : DataW.trod enc Tryz.prog w base spare held n 5 [c] = some y) : ∃ z : Nat, c = .int .u8 (z : Int) ∧ z < 256 := by
  obtain ⟨z, hz, _, hwf⟩ := DataW.trod_int Tryz.underlying5 h
  simp only [List.cons.injEq, and_true] at hz
  have h' : (decide (IntKind.min .u8 ≤ z) && decide (z ≤ IntKind.max .u8)) = true := hwf
  rw [show IntKind.min .u8 = 0 from rfl, show IntKind.max .u8 = 255 from rfl, Bool.and_eq_true, decide_eq_true_eq, decide_eq_true_eq] at h'
  exact ⟨z.toNat, by rw [hz, Int.toNat_of_nonneg h'.1], by omega⟩
end
theorem arr3 {cs : Array Value} (h : cs.size = 3) : ∃ c0 c1 c2, cs = #[c0, c1, c2] := by
  obtain ⟨l⟩ := cs
  have hl : l.length = 3 := by simpa using h
  match l, hl with
  | [c0, c1, c2], _ => exact ⟨c0, c1, c2, rfl⟩
theorem arr5 {cs : Array Value} (h : cs.size = 5) : ∃ c0 c1 c2 c3 c4, cs = #[c0, c1, c2, c3, c4] := by
  obtain ⟨l⟩ := cs
  have hl : l.length = 5 := by simpa using h
  match l, hl with
  | [c0, c1, c2, c3, c4], _ => exact ⟨c0, c1, c2, c3, c4, rfl⟩
theorem arr7 {cs : Array Value} (h : cs.size = 7) : ∃ c0 c1 c2 c3 c4 c5 c6, cs = #[c0, c1, c2, c3, c4, c5, c6] := by
  obtain ⟨l⟩ := cs
  have hl : l.length = 7 := by simpa using h
  match l, hl with
  | [c0, c1, c2, c3, c4, c5, c6], _ => exact ⟨c0, c1, c2, c3, c4, c5, c6, rfl⟩
theorem okWide_arr {P : Program} {w : World} {r : Reach} {base : Nat} {t : TypeId} {v : Value} {n : Nat} {e : TypeId} (ht : P.underlying t = some (.array n e)) (h : Value.okWide P w r base t v) : ∃ cs, v = .agg cs ∧ cs.size = P.cellsOf t := by
  simp only [Value.okWide, ht] at h
  obtain ⟨cs, h1, h2, _⟩ := h
  exact ⟨cs, h1, h2⟩
theorem u16Nat {z : Int} (h : (Lit.int .u16 z).wf = true) : ∃ N : Nat, z = N ∧ N ≤ 65535 := by
  have h' : (decide (IntKind.min .u16 ≤ z) && decide (z ≤ IntKind.max .u16)) = true := h
  rw [show IntKind.min .u16 = 0 from rfl, show IntKind.max .u16 = 65535 from rfl, Bool.and_eq_true, decide_eq_true_eq, decide_eq_true_eq] at h'
  exact ⟨z.toNat, by rw [Int.toNat_of_nonneg h'.1], by omega⟩
set_option maxRecDepth 100000 in
/-- Three bytes. -/
theorem open_three {H : Type} {enc : TypeId × Value → H} {base : Nat} (W : World) (v : Value) (d : DataW H) (p : List MemPlace) (hval : Value.okWide Tryz.prog W .any base 57 v)
    (h : DataW.Trod enc Tryz.prog W 0 (fun _ => true) true 57 v d p) : ∃ y z u : Nat, v = .agg #[.int .u8 (y : Int), .int .u8 (z : Int), .int .u8 (u : Int)] ∧ y < 256 ∧ z < 256 ∧ u < 256 := by
  obtain ⟨cs, rfl, hsz⟩ := okWide_arr Tryz.underlying57 hval
  obtain ⟨c0, c1, c2, rfl⟩ := arr3 (hsz.trans (show Tryz.prog.cellsOf 57 = 3 by kernel_rfl))
  obtain ⟨fuel, hf⟩ := h
  have hf' : DataW.trod enc Tryz.prog W 0 (fun _ => true) true fuel 57 [c0, c1, c2] = some (d, p) := hf
  obtain ⟨y0, y1, y2, n, _, h0, h1, h2⟩ := Go.ChangeShapes.trod_array3 Tryz.underlying57 (show Tryz.prog.cellsOf 5 = 1 by kernel_rfl) hf'
  obtain ⟨a, rfl, ha⟩ := u8At h0
  obtain ⟨b, rfl, hb⟩ := u8At h1
  obtain ⟨c, rfl, hc⟩ := u8At h2
  exact ⟨a, b, c, rfl, ha, hb, hc⟩
set_option maxRecDepth 100000 in
/-- A file set's contents. -/
theorem open_fset {H : Type} {enc : TypeId × Value → H} {base : Nat} (W : World) (v : Value) (d : DataW H) (p : List MemPlace) (hval : Value.okWide Tryz.prog W .any base 65 v)
    (h : DataW.Trod enc Tryz.prog W 0 (fun _ => true) true 65 v d p) : ∃ f : Vs.Fs, v = .agg (Vs.fsC f) := by
  obtain ⟨cs, rfl, hsz⟩ := Go.WideShapes.okWide_struct Tryz.underlying65 hval
  obtain ⟨c0, c1, c2, c3, c4, rfl⟩ := arr5 (hsz.trans (show Tryz.prog.cellsOf 65 = 5 by kernel_rfl))
  obtain ⟨fuel, hf⟩ := h
  have hf' : DataW.trod enc Tryz.prog W 0 (fun _ => true) true fuel 65 [c0, c1, c2, c3, c4] = some (d, p) := hf
  have hs := Tryz.underlying65
  have ki : Tryz.prog.cellsOf 3 = 1 := by kernel_rfl
  have ks : Tryz.prog.cellsOf 9 = 1 := by kernel_rfl
  obtain ⟨_, _, h0⟩ := field hs hf' 0 0 1 3 (by rfl) ki
  obtain ⟨_, _, h1⟩ := field hs hf' 1 1 1 3 (by rfl) ki
  obtain ⟨_, _, h2⟩ := field hs hf' 2 2 1 9 (by rfl) ks
  obtain ⟨_, _, h3⟩ := field hs hf' 3 3 2 42 (by rfl) (by kernel_rfl)
  obtain ⟨z0, rfl, _⟩ := intAt h0
  obtain ⟨z1, rfl, _⟩ := intAt h1
  obtain ⟨s, rfl⟩ := strAt h2
  obtain ⟨b, q, rfl, rfl, _⟩ := twoAt Tryz.underlying42 (by rfl) (by rfl) h3
  exact ⟨⟨z0, z1, s, b, q⟩, rfl⟩
set_option maxRecDepth 100000 in
/-- The contents of an integrity descriptor: their lists lie in slices. -/
theorem open_info {H : Type} {enc : TypeId × Value → H} {base : Nat} (W : World) (v : Value) (d : DataW H) (p : List MemPlace) (hval : Value.okWide Tryz.prog W .any base 71 v)
    (h : DataW.Trod enc Tryz.prog W 0 (fun _ => true) true 71 v d p) : ∃ (i : Vs.In) (vf vs : Value), v = .agg #[.int .i64 i.time, .bool i.closed, .int .i64 i.unique, vf, vs, .int .i64 i.files, .int .i64 i.folders] ∧ Kit.RowS W vf (Kit.izs i.free) ∧ Kit.RowS W vs (Kit.izs i.size) := by
  obtain ⟨cs, rfl, hsz⟩ := Go.WideShapes.okWide_struct Tryz.underlying71 hval
  obtain ⟨c0, c1, c2, c3, c4, c5, c6, rfl⟩ := arr7 (hsz.trans (show Tryz.prog.cellsOf 71 = 7 by kernel_rfl))
  obtain ⟨fuel, hf⟩ := h
  have hf' : DataW.trod enc Tryz.prog W 0 (fun _ => true) true fuel 71 [c0, c1, c2, c3, c4, c5, c6] = some (d, p) := hf
  have hs := Tryz.underlying71
  have ki : Tryz.prog.cellsOf 3 = 1 := by kernel_rfl
  have kb : Tryz.prog.cellsOf 4 = 1 := by kernel_rfl
  have kl : Tryz.prog.cellsOf 34 = 1 := by kernel_rfl
  obtain ⟨_, _, h0⟩ := field hs hf' 0 0 1 3 (by rfl) ki
  obtain ⟨_, _, h1⟩ := field hs hf' 1 1 1 4 (by rfl) kb
  obtain ⟨_, _, h2⟩ := field hs hf' 2 2 1 3 (by rfl) ki
  obtain ⟨_, _, h3⟩ := field hs hf' 3 3 1 34 (by rfl) kl
  obtain ⟨_, _, h4⟩ := field hs hf' 4 4 1 34 (by rfl) kl
  obtain ⟨_, _, h5⟩ := field hs hf' 5 5 1 3 (by rfl) ki
  obtain ⟨_, _, h6⟩ := field hs hf' 6 6 1 3 (by rfl) ki
  obtain ⟨z0, rfl, _⟩ := intAt h0
  obtain ⟨b1, rfl⟩ := boolAt h1
  obtain ⟨z2, rfl, _⟩ := intAt h2
  obtain ⟨l3, r3, _⟩ := open_rowS h3
  obtain ⟨l4, r4, _⟩ := open_rowS h4
  obtain ⟨z5, rfl, _⟩ := intAt h5
  obtain ⟨z6, rfl, _⟩ := intAt h6
  exact ⟨⟨z0, b1, z2, l3, l4, z5, z6⟩, c3, c4, rfl, r3, r4⟩
set_option maxRecDepth 100000 in
/-- A slice of strings. -/
theorem open_strings {H : Type} {enc : TypeId × Value → H} {base : Nat} (W : World) (v : Value) (d : DataW H) (p : List MemPlace) (hval : Value.okWide Tryz.prog W .any base 31 v)
    (h : DataW.Trod enc Tryz.prog W 0 (fun _ => true) true 31 v d p) : ∃ l : List ByteArray, Kit.RowS W v (Vs.strs l) := by
  obtain ⟨a0, len0, cap0, rfl⟩ := Go.WideShapes.okWide_slice Tryz.underlying31 hval
  obtain ⟨fuel, hf⟩ := h
  have hf' : DataW.trod enc Tryz.prog W 0 (fun _ => true) true fuel 31 [.slice a0 len0 cap0] = some (d, p) := hf
  exact open_strs hf'
end Frame
end Go.Proofs.YthkppbimkjmbnaaGreatDoor

/-
  The walk through VolumeseqPlaces.
-/
namespace Go.Proofs.YthkppbimkjmbnaaGreatDoor
open Go.RowKit Go.Maps
open Vs (bs by_)
namespace Vs
/-- The identifier of a sequence's block. -/
def idP (i : Nat) : Nat := if i = 0 then 1 else if i = 1 then 5 else if i = 2 then 6 else if i = 3 then 7 else 8
theorem place {d : D} (h : okD d = true) {loc : Nat} (hl : loc ≤ 65535) {i : Nat} (hi : i < 5) : ∃ b : List UInt8, (seqL d loc).getD i ⟨#[]⟩ = bs b ∧ b.length = 2048 ∧ isR b (idP i : Nat) ((loc : Int) + i) = true ∧ isR b (idP i : Nat) ((loc : Int) + i + 1) = false := by
  obtain ⟨k1, k2, k3, k4⟩ := okL_of h
  have go : ∀ (id k : Nat) (body : List UInt8), body.length ≤ 2032 → id < 65536 → k < 10 → (blk id 1 (loc + k) body).length = 2048 ∧ isR (blk id 1 (loc + k) body) (id : Nat) ((loc : Int) + k) = true ∧ isR (blk id 1 (loc + k) body) (id : Nat) ((loc : Int) + k + 1) = false := fun id k body hb hid hk => by
    refine ⟨blk_len hb, ?_, ?_⟩
    · rw [blk_is id 1 (loc + k) body hid (by decide) (by omega) hb, decide_eq_true (by omega), decide_eq_true rfl]
      rfl
    · rw [blk_is id 1 (loc + k) body hid (by decide) (by omega) hb, decide_eq_false (by omega), Bool.false_and]
  have hc : i = 0 ∨ i = 1 ∨ i = 2 ∨ i = 3 ∨ i = 4 := by omega
  rcases hc with rfl | rfl | rfl | rfl | rfl
  · exact ⟨_, rfl, go 1 0 _ (by omega) (by decide) (by decide)⟩
  · exact ⟨_, rfl, go 5 1 _ (by omega) (by decide) (by decide)⟩
  · exact ⟨_, rfl, go 6 2 _ (by omega) (by decide) (by decide)⟩
  · exact ⟨_, rfl, go 7 3 _ (by decide) (by decide) (by decide)⟩
  · exact ⟨_, rfl, go 8 4 _ (by rw [z_len]; decide) (by decide) (by decide)⟩
end Vs

set_option maxHeartbeats 12800000 in
set_option maxRecDepth 100000 in
/-- VolumeseqPlaces. -/
theorem lawPlaces_any (d : Vs.D) (rb rp : Int) (N : Nat) (hN : N ≤ 65535) (w : World) (m : Int) (hT : Lib.Utf8Tabs 1 2 w) (hM : w.cell? ⟨0, 0, none⟩ = some (.int .i64 m)) :
    Calls Tryz.prog 8 #[.agg (Vs.dC d), .agg #[.int .i64 rb, .int .i64 rp], .int .u16 (N : Int)] w fun e w' => e = .returned (.bool true) ∧ Below w.heap.size w w' := by
  have HT := Lib.hid hT
  have HM := Lib.hid hM
  have CA := Lib.hid (fun W h1 h2 => awake_any W m h1 h2)
  have CF := Lib.hid (fun W => few_any d W)
  have HFI := Lib.hid (Vs.fewB_iff d)
  have hz22 : (Vs.dC d).size = 22 := rfl
  have HB0 := Lib.hid (((Below.refl w.heap.size w).alloc (Nat.le_refl _) (.cells (Vs.dC d) 46)).alloc (by simp) (.cells #[.int .i64 rb, .int .i64 rp] 42))
  have HN0 := Lib.hid (heap_alloc2_old w (.cells (Vs.dC d) 46) (.cells #[.int .i64 rb, .int .i64 rp] 42))
  have HA0 := Lib.hid (heap_alloc2_new w (.cells (Vs.dC d) 46) (.cells #[.int .i64 rb, .int .i64 rp] 42))
  have CS := Lib.hid (fun W h a b c => seq_any d (N : Int) W h a b c)
  have CI := Lib.hid (fun (s : ByteArray) (id l : Int) (r : Bool) (W : World) (hs : s.size = 2048) (hr : Vs.isR (by_ s) id l = r) => (hr ▸ tIs_any s id l W (by omega) : Calls Tryz.prog 31 #[.string s, .int .i64 id, .int .i64 l] W fun e w' => e = .returned (.bool r) ∧ Below W.heap.size W w'))
  have CAN := Lib.hid (fun W => vAnchor_any (N : Int) d.istart d.icount d.istart d.icount W)
  have CFS := Lib.hid (fun W h s => vFileSet_any ⟨0, d.vol.time, d.vol.name, rb, rp⟩ (N : Int) W h s)
  have HPL := Lib.hid (fun h i hi => Vs.place (d := d) h (loc := N) hN (i := i) hi)
  have HOK := Lib.hid (fun h => (Vs.okLog_iff d).1 ((Vs.okD_iff d).1 h).2.2)
  have z0 : (Vs.dC d)[0]? = some (.string d.vol.name) := rfl
  have z7 : (Vs.dC d)[7]? = some (.int .i64 d.vol.time) := rfl
  have z20 : (Vs.dC d)[20]? = some (.int .i64 d.istart) := rfl
  have z21 : (Vs.dC d)[21]? = some (.int .i64 d.icount) := rfl
  unfold Vs.fsC at CFS
  simp only [] at CFS
  obtain ⟨Z, hZ⟩ : ∃ Z, Z = Vs.dC d := ⟨_, rfl⟩
  have HZD := Lib.hid hZ
  rw [← hZ] at CF HB0 HN0 HA0 CS hz22 z0 z7 z20 z21
  rw [← hZ]
  clear hT hM hZ
  go_enter Tryz.func8, Tryz.ntmps8
  go_wp2_with fail
  generalize (w.alloc (.cells Z 46)).alloc (.cells #[.int .i64 rb, .int .i64 rp] 42) = w0 at *
  with_reducible refine (CA.out _ (Kit.tabs_below HT.out HB0.out) ((HB0.out.cell (p := ⟨0, 0, none⟩) (World.block_lt_of_cell? _ _ HM.out)).trans HM.out)).mono ?_
  rintro e w1 ⟨rfl, hb1⟩
  have HB1 := Lib.hid (HB0.out.trans (hb1.mono HB0.out.size))
  have HN1 := Lib.hid ((hb1.block w.heap.size (Array.getElem?_eq_some_iff.1 HN0.out).1).trans HN0.out)
  have HA1 := Lib.hid ((hb1.block (w.heap.size + 1) (Array.getElem?_eq_some_iff.1 HA0.out).1).trans HA0.out)
  have HL1 := Lib.hid (Vs.box_load d HZD.out HN1.out)
  clear hb1 HB0 HN0 HA0
  go_wp2_with (refine wpList_load_at 46 _ rfl w.heap.size 0 rfl _ (HL1.out) (by rfl) ?_)
  with_reducible refine (CF.out _).mono ?_
  rintro e w2 ⟨rfl, hb2⟩
  have HB2 := Lib.hid (HB1.out.trans (hb2.mono HB1.out.size))
  have HN2 := Lib.hid ((hb2.block w.heap.size (Array.getElem?_eq_some_iff.1 HN1.out).1).trans HN1.out)
  have HA2 := Lib.hid ((hb2.block (w.heap.size + 1) (Array.getElem?_eq_some_iff.1 HA1.out).1).trans HA1.out)
  have HL2 := Lib.hid (Vs.box_load d HZD.out HN2.out)
  clear hb2 HB1 HN1 HA1 HL1
  cases hfew : Vs.fewB d with
  | false =>
    rw [hfew] at *
    go_wp2_with fail
    go_ret
    exact ⟨rfl, HB2.out⟩
  | true =>
    obtain ⟨a1, a2, a3⟩ := HFI.out.1 hfew
    have CS2 := Lib.hid (fun W h => CS.out W h (by omega) (by omega) (by omega))
    have CFS2 := Lib.hid (fun W h => CFS.out W h (by show d.vol.name.size ≤ 9223372036854775807; omega))
    clear CS CFS a1 a2 a3
    rw [hfew] at *
    have hN64 : (N : Int) ≤ 65535 := by omega
    go_wp2_with (refine wpList_load_at 46 _ rfl w.heap.size 0 rfl _ (HL2.out) (by rfl) ?_)
    with_reducible refine (CS2.out _ (Kit.tabs_below HT.out HB2.out)).mono ?_
    rintro e w3 ⟨v, rfl, ho3, hb3⟩
    have HB3 := Lib.hid (HB2.out.trans (hb3.mono HB2.out.size))
    have HN3 := Lib.hid ((hb3.block w.heap.size (Array.getElem?_eq_some_iff.1 HN2.out).1).trans HN2.out)
    have HA3 := Lib.hid ((hb3.block (w.heap.size + 1) (Array.getElem?_eq_some_iff.1 HA2.out).1).trans HA2.out)
    clear hb3 HN2 HA2 HL2
    by_cases he : Vs.seqE d N = 0
    case neg =>
      have d2 : (Vs.seqE d N != 0) = true := by rw [bne_iff_ne]; exact he
      have hr := Vs.seqR_err he
      rw [hr] at ho3
      obtain ⟨A, c, rfl⟩ := own_shape ho3
      clear he
      generalize Vs.seqE d N = E at *
      simp only [List.length_nil]
      go_wp2_with fail
      go_ret
      exact ⟨rfl, HB3.out⟩
    have hokd := (Vs.seqE_zero he).1
    have hlen : (Vs.seqR d N).length = 16 := by rw [Vs.seqR_zero he]; rfl
    have HPL2 := Lib.hid (fun i hi => by
      have := HPL.out hokd i hi
      rw [show (Vs.seqL d N) = Vs.seqR d N from (Vs.seqR_zero he).symm] at this
      exact this)
    obtain ⟨g1, g2, g3, g4, g5, g6⟩ := HOK.out hokd
    have hanc : Vs.anchorR N d.istart d.icount d.istart d.icount = (Vs.blk 2 1 N (Vs.ancL d.istart d.icount d.istart d.icount), 0) := by
      unfold Vs.anchorR
      rw [if_pos ((Vs.word_iff _).2 ⟨by omega, by omega⟩), if_pos (by rw [g6]; rfl)]
      simp
    rw [hanc] at CAN
    simp only [] at CAN
    have hA48 : (bs (Vs.blk 2 1 N (Vs.ancL d.istart d.icount d.istart d.icount))).size = 2048 := by rw [Vs.bs_size, Vs.blk_len (by rw [Vs.ancL_len]; decide)]
    have hAis : Vs.isR (by_ (bs (Vs.blk 2 1 N (Vs.ancL d.istart d.icount d.istart d.icount)))) 2 N = true := by
      rw [Vs.by_bs, Vs.blk_is 2 1 N _ (by decide) (by decide) (by omega) (by rw [Vs.ancL_len]; decide), decide_eq_true rfl]
      rfl
    have HAC := Lib.hid (fun W => CI.out _ 2 N true W hA48 hAis)
    have hA48' : ((bs (Vs.blk 2 1 N (Vs.ancL d.istart d.icount d.istart d.icount))).size : Int) = 2048 := by omega
    generalize bs (Vs.blk 2 1 N (Vs.ancL d.istart d.icount d.istart d.icount)) = ab at *
    have HFC := Lib.hid (show (Vs.okFs ⟨0, d.vol.time, d.vol.name, rb, rp⟩ = true ∧ ∃ t : ByteArray, Vs.fsetR ⟨0, d.vol.time, d.vol.name, rb, rp⟩ N = (by_ t, 0) ∧ t.size = 2048 ∧ Vs.isR (by_ t) 256 N = true ∧ Vs.isR (by_ t) 256 ((N : Int) + 1) = false) ∨ (Vs.fsetR ⟨0, d.vol.time, d.vol.name, rb, rp⟩ N = ([], 1)) by
      unfold Vs.fsetR
      rw [if_pos ((Vs.word_iff _).2 ⟨by omega, by omega⟩)]
      by_cases hf : Vs.okFs ⟨0, d.vol.time, d.vol.name, rb, rp⟩ = true
      · rw [if_pos hf]
        have hl := Vs.fs_len hf
        refine .inl ⟨hf, bs (Vs.blk 256 1 N (Vs.fsL ⟨0, d.vol.time, d.vol.name, rb, rp⟩)), ?_, ?_, ?_, ?_⟩
        · rw [Vs.by_bs]; simp
        · rw [Vs.bs_size, Vs.blk_len (by rw [hl]; decide)]
        · rw [Vs.by_bs, Vs.blk_is 256 1 N _ (by decide) (by decide) (by omega) (by rw [hl]; decide), decide_eq_true rfl]; rfl
        · rw [Vs.by_bs, Vs.blk_is 256 1 N _ (by decide) (by decide) (by omega) (by rw [hl]; decide), decide_eq_false (by omega), Bool.false_and]
      · rw [if_neg hf]
        exact .inr rfl)
    rw [he] at *
    clear he hokd g1 g2 g3 g4 g5 g6 hanc HPL HOK hA48 hAis
    generalize Vs.seqR d N = SL at *
    rw [hlen] at ho3
    obtain ⟨g, cap, rfl⟩ := Vs.own_head (n := 15) ho3
    have HR3 := Lib.hid (Kit.Row.of_own ho3)
    clear ho3
    have HC3 := Lib.hid (show ∀ W, Below w3.heap.size w3 W → ∀ j, j < 16 → W.cell? ⟨g, j, none⟩ = some (.string (SL.getD j ⟨#[]⟩)) from fun W h j hj => by
      obtain ⟨A, c, hv, -, -, hc⟩ := HR3.out.below h
      rw [Vs.strs_len, hlen] at hv hc
      obtain ⟨b, o, hA, -, hcc⟩ := hc (by decide)
      subst hA
      obtain ⟨⟨rfl, rfl⟩, rfl⟩ : (g = b ∧ 0 = o) ∧ cap = c := by simpa using hv
      have := hcc j (.string (SL.getD j ⟨#[]⟩)) (by simp [Vs.strs, List.getD, hlen, hj])
      rwa [Nat.zero_add] at this)
    have HBI := Lib.hid ((Below.refl w3.heap.size w3).alloc (Nat.le_refl _) (.cells #[.int .i64 1, .int .i64 5, .int .i64 6, .int .i64 7, .int .i64 8] 3))
    have HNI := Lib.hid (heap_alloc_new w3 (.cells #[.int .i64 1, .int .i64 5, .int .i64 6, .int .i64 7, .int .i64 8] 3))
    have hid : ∀ i, i < 5 → (#[.int .i64 1, .int .i64 5, .int .i64 6, .int .i64 7, .int .i64 8] : Array Value)[i]? = some (.int .i64 (Vs.idP i : Nat)) := fun i hi => by
      have hc : i = 0 ∨ i = 1 ∨ i = 2 ∨ i = 3 ∨ i = 4 := by omega
      rcases hc with rfl | rfl | rfl | rfl | rfl <;> rfl
    have HID := Lib.hid hid
    clear hid HR3 hlen
    go_upto_region 10 with fail
    generalize w3.alloc (.cells #[.int .i64 1, .int .i64 5, .int .i64 6, .int .i64 7, .int .i64 8] 3) = wi at *
    have HBWI := Lib.hid (HB3.out.trans (HBI.out.mono HB3.out.size))
    have hgi : w3.heap.size < wi.heap.size := (Array.getElem?_eq_some_iff.1 HNI.out).1
    have HCI := Lib.hid (show ∀ W, Below wi.heap.size wi W → ∀ j, j < 5 → W.cell? ⟨w3.heap.size, j, none⟩ = some (.int .i64 (Vs.idP j : Nat)) from fun W h j hj => by
      rw [cell_of_row _ _ j _ _ _ ((h.block _ hgi).trans HNI.out)]
      exact HID.out j hj)
    have HCS := Lib.hid (show ∀ W, Below wi.heap.size wi W → ∀ j, j < 16 → W.cell? ⟨g, j, none⟩ = some (.string (SL.getD j ⟨#[]⟩)) from fun W h j hj => HC3.out W (HBI.out.trans (h.mono HBI.out.size)) j hj)
    have HNW := Lib.hid (show ∀ W, Below wi.heap.size wi W → W.heap[w.heap.size]? = some (.cells Z 46 (0, 0)) from fun W h => by
      have hb := HBI.out.trans (h.mono HBI.out.size)
      exact (hb.block w.heap.size (Array.getElem?_eq_some_iff.1 HN3.out).1).trans HN3.out)
    have HAW := Lib.hid (show ∀ W, Below wi.heap.size wi W → W.heap[w.heap.size + 1]? = some (.cells #[.int .i64 rb, .int .i64 rp] 42 (0, 0)) from fun W h => by
      have hb := HBI.out.trans (h.mono HBI.out.size)
      exact (hb.block (w.heap.size + 1) (Array.getElem?_eq_some_iff.1 HA3.out).1).trans HA3.out)
    generalize w3.heap.size = gi at *
    clear HC3 HID HNI HBI HN3 HA3 HB3 hgi
    go_wp2_with fail
    go_loopw [37] (fun iv wr => ∃ i : Nat, i ≤ 5 ∧ iv = .int .i64 i ∧ Hid (Below wi.heap.size wi wr)) (fun iv _ => 5 - (intOf iv).toNat)
    case atStart => exact ⟨0, by omega, rfl, Lib.hid (Below.refl _ _)⟩
    case round =>
      obtain ⟨i, hi, rfl, HBR⟩ := hrel
      by_cases hlt : i < 5
      · have cid := HCI.out wr HBR.out i hlt
        have cs := HCS.out wr HBR.out i (by omega)
        obtain ⟨b, hb, hbl, hi1, hi2⟩ := HPL2.out i hlt
        have hsz : ((SL.getD i ⟨#[]⟩).size : Int) = 2048 := by rw [hb, Vs.bs_size, hbl]; rfl
        have CI1 := Lib.hid (fun W => CI.out (SL.getD i ⟨#[]⟩) (Vs.idP i : Nat) ((N : Int) + i) true W (by omega) (by rw [hb, Vs.by_bs]; exact hi1))
        have CI2 := Lib.hid (fun W => CI.out (SL.getD i ⟨#[]⟩) (Vs.idP i : Nat) ((N : Int) + i + 1) false W (by omega) (by rw [hb, Vs.by_bs]; exact hi2))
        have HS := Lib.hid (fun W h => HCS.out W h i (by omega))
        have i16 : decide ((16 : Int) ≤ (i : Int)) = false := decide_eq_false (by omega)
        clear hb hbl hi1 hi2
        generalize SL.getD i ⟨#[]⟩ = s at *
        generalize Vs.idP i = id at *
        go_wp2_with fail
        with_reducible refine (CI1.out _).mono ?_
        rintro e w5 ⟨rfl, hb5⟩
        have HB5 := Lib.hid (HBR.out.trans (hb5.mono HBR.out.size))
        clear cs cid hb5
        have cs := HS.out w5 HB5.out
        go_wp2_with fail
        with_reducible refine (CI2.out _).mono ?_
        rintro e w6 ⟨rfl, hb6⟩
        have HB6 := Lib.hid (HB5.out.trans (hb6.mono HB5.out.size))
        clear cs hb6
        go_wp2_with fail
        go_roundw
        case rel => exact ⟨i + 1, by omega, by go_num, HB6⟩
        case measure => simp [intOf]; omega
      · obtain rfl : i = 5 := by omega
        have hn := HNW.out wr HBR.out
        have c20 := cell_of_row _ _ 20 _ _ _ hn
        have c21 := cell_of_row _ _ 21 _ _ _ hn
        rw [z20] at c20
        rw [z21] at c21
        clear hn
        go_wp2_with fail
        with_reducible refine (CAN.out _).mono ?_
        rintro e w5 ⟨rfl, hb5⟩
        have HB5 := Lib.hid (HBR.out.trans (hb5.mono HBR.out.size))
        clear c20 c21 hb5
        have hn := HNW.out w5 HB5.out
        have ha := HAW.out w5 HB5.out
        have c0 := cell_of_row _ _ 0 _ _ _ hn
        have c7 := cell_of_row _ _ 7 _ _ _ hn
        rw [z0] at c0
        rw [z7] at c7
        have k0 := cell_of_row _ _ 0 _ _ _ ha
        have k1 := cell_of_row _ _ 1 _ _ _ ha
        simp only [List.getElem?_toArray, List.getElem?_cons_zero, List.getElem?_cons_succ] at k0 k1
        clear hn ha
        go_wp2_with fail
        with_reducible refine (CFS2.out _ (Kit.tabs_below HT.out (HBWI.out.trans (HB5.out.mono HBWI.out.size)))).mono ?_
        rintro e w6 ⟨rfl, hb6⟩
        have HB6 := Lib.hid (HB5.out.trans (hb6.mono HB5.out.size))
        clear c0 c7 k0 k1 hb6
        rcases HFC.out with ⟨-, t, ht, ht48, hi1, hi2⟩ | ht
        · have CI1 := Lib.hid (fun W => CI.out t 256 N true W ht48 hi1)
          have CI2 := Lib.hid (fun W => CI.out t 256 ((N : Int) + 1) false W ht48 hi2)
          have ht8 : (t.size : Int) = 2048 := by omega
          rw [ht]
          simp only [Vs.bs_by]
          clear ht hi1 hi2 HFC
          go_wp2_with fail
          with_reducible refine (HAC.out _).mono ?_
          rintro e w7 ⟨rfl, hb7⟩
          have HB7 := Lib.hid (HB6.out.trans (hb7.mono HB6.out.size))
          clear hb7
          go_wp2_with fail
          with_reducible refine (CI1.out _).mono ?_
          rintro e w8 ⟨rfl, hb8⟩
          have HB8 := Lib.hid (HB7.out.trans (hb8.mono HB7.out.size))
          clear hb8
          go_wp2_with fail
          with_reducible refine (CI2.out _).mono ?_
          rintro e w9 ⟨rfl, hb9⟩
          have HB9 := Lib.hid (HB8.out.trans (hb9.mono HB8.out.size))
          clear hb9
          go_wp2_with fail
          go_ret
          exact ⟨rfl, HBWI.out.trans (HB9.out.mono HBWI.out.size)⟩
        · rw [ht]
          simp only []
          rw [show bs [] = (⟨#[]⟩ : ByteArray) from rfl]
          clear ht HFC
          go_wp2_with fail
          with_reducible refine (HAC.out _).mono ?_
          rintro e w7 ⟨rfl, hb7⟩
          have HB7 := Lib.hid (HB6.out.trans (hb7.mono HB6.out.size))
          clear hb7
          go_wp2_with fail
          go_ret
          exact ⟨rfl, HBWI.out.trans (HB7.out.mono HBWI.out.size)⟩
end Go.Proofs.YthkppbimkjmbnaaGreatDoor
